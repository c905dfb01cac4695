/- A part of the proof of BuildAgain: no condition of its own. Whence: AmClk1, AmOrd1, AmOrd2. -/
import Derived.Test.YtgepkelfblhpnaaGreatDoorA28
set_option linter.all false
namespace Am
open Go C
def clkV (c:Clk):HV:=.agg [.d (.int .i64 c.kind),.d (.str c.name)]
def clk0:Clk:=⟨0,[]⟩
def findS (vs:List Var) (s:Str):Var × Bool:=match vs.find? fun v=>decide (v.name = s) with
  | some v=>(v,true)
  | none=>(var0,false)
@[go_sem] theorem cellsEq_clk (a c:Int) (b d:Str):cellsEq [.i,.s] [.int .i64 a,.str b] [.int .i64 c,.str d] = some (decide ((⟨a,b⟩:Clk) = ⟨c,d⟩)):=KOk.eq (k:=kC) ⟨a,b⟩ ⟨c,d⟩
@[go_sem] theorem Clk.eta (c:Clk):Clk.mk c.kind c.name = c:=(rfl)
@[go_sem] theorem clk0_eq:Clk.mk 0 [] = clk0:=(rfl)
@[go_sem] theorem cellsEq_fault (a b c a' b' c':Int):cellsEq [.i,.i,.i] [.int .i64 a,.int .i64 b,.int .i64 c] [.int .i64 a',.int .i64 b',.int .i64 c'] = some (decide ((a,b,c) = (a',b',c'))):=by
  simp only [cellsEq,scalarEq,if_true,Bool.and_true,Prod.mk.injEq,Option.some.injEq]
  by_cases h1:a = a' <;> by_cases h2:b = b' <;> by_cases h3:c = c' <;> simp [h1,h2,h3]
def FiI (vs:List Var) (s:Str) (B:List Obj) (T:List Nat) (k:Nat) (e:Env) (H:St):Prop:=
  ∃ i,i ≤ vs.length ∧ k = vs.length - i ∧ findS vs s = findS (vs.drop i) s ∧
    e = [(1,.d (.str s)),(4,.ref B.length 0),(8,.d (.sl (vs.map encVar))),(9,.d (.int .i64 vs.length)),(10,.d (.int .i64 i))] ∧
    H = ⟨B ++ [.cells [.d (.str []),.d (.int .i64 0),.d (.int .i64 0),.d (.str [])]],T,none⟩
theorem find_c (vs:List Var) (hl:vs.length ≤ 5000000) (s:Str) (H:St):CallsA prg 244 [.d (.sl (vs.map encVar)),.d (.str s)] H (.tup [.agg (dcells (encVar (findS vs s).1)),.d (.bool (findS vs s).2)]) H:=by
  refine calls_of2 rfl f244 ?_
  obtain ⟨B,T,lw⟩:=H
  simp only [go_sem,c244,List.length_map]
  refine loop_I (FiI vs s B T) vs.length ⟨0,Nat.zero_le _,rfl,rfl,rfl,rfl⟩ ?_
  rintro k e H ⟨i,hi,rfl,hv,rfl,rfl⟩
  simp only [go_sem,c244l0]
  refine WG_intro (fun h=>?_) fun h=>?_
  · have hlt:i < vs.length:=by simpa using h
    obtain ⟨v,hv0⟩:=at_of_lt hlt
    have e2:(vs.map encVar)[i]? = some (encVar v):=by simp [hv0]
    rw [drop_at hv0] at hv
    simp only [go_sem,h,e2,encVar]
    refine WG_intro (fun h2=>?_) fun h2=>?_
    · have h2':v.name = s:=by simpa using h2
      simp only [go_sem,h2]
      rw [hv]
      simp [findS,h2',encVar,dcells]
    · have h2':¬ v.name = s:=by simpa using h2
      simp only [go_sem,h2]
      rw [wrap64 (by omega) (by omega)]
      refine ⟨_,by omega,i + 1,by omega,rfl,?_,rfl,rfl⟩
      rw [hv]
      simp [findS,h2']
  have hlt:vs.length ≤ i:=by simpa using h
  rw [List.drop_of_length_le hlt] at hv
  simp only [go_sem,h]
  rw [hv]
  simp [findS,var0,encVar,dcells]
def truthS (vs:List Var) (s:Str) (ok:Bool):Int:=if (findS vs s).2 = false then 19 else if ok = false ∨ (findS vs s).1.clk ≠ clk0 then 21 else 0
theorem truth_c (vs:List Var) (hl:vs.length ≤ 5000000) (s:Str) (ok:Bool) (H:St):CallsA prg 261 [.d (.sl (vs.map encVar)),.d (.str s),.d (.bool ok)] H (.d (.int .i64 (truthS vs s ok))) H:=by
  have h1:=fun H=>WCall_of (find_c vs hl s H)
  simp only [encVar,dcells_cons,dcells_nil] at h1
  refine calls_of2 rfl f261 ?_
  obtain ⟨B,T,lw⟩:=H
  simp only [go_sem,c261,h1]
  repeat' (refine WG_intro ?_ ?_ <;> intro h <;> (try simp only [go_sem,h]))
  all_goals simp_all [truthS]
def declS (vs:List Var) (v:Var):Int:=if v.clk = clk0 then 0 else if (findS vs v.clk.name).2 = false then 19 else if (findS vs v.clk.name).1.ty ≠ 2 then 20 else if (findS vs v.clk.name).1.clk ≠ clk0 then 21 else 0
theorem declC_c (vs:List Var) (hl:vs.length ≤ 5000000) (v:Var) (H:St):CallsA prg 243 [.d (.sl (vs.map encVar)),.agg (dcells (encVar v))] H (.d (.int .i64 (declS vs v))) H:=by
  have h1:=fun H=>WCall_of (find_c vs hl v.clk.name H)
  simp only [encVar,dcells_cons,dcells_nil] at h1 ⊢
  refine calls_of2 rfl f243 ?_
  obtain ⟨B,T,lw⟩:=H
  simp only [go_sem,c243,h1]
  repeat' (refine WG_intro ?_ ?_ <;> intro h <;> (try simp only [go_sem,h,h1]))
  all_goals simp_all [declS]
mutual
def clkE (vs:List Var):Ex→Clk→Int
  | .mk k _ nm l,c=>
    if k = 3 then (if (findS vs nm).2 = false then 19 else if (findS vs nm).1.clk ≠ c then 21 else allL vs l c)
    else if k = 8 ∨ k = 9 then (if truthS vs nm (decide (c = if k = 9 then ⟨2,nm⟩ else ⟨1,nm⟩)) ≠ 0 then truthS vs nm (decide (c = if k = 9 then ⟨2,nm⟩ else ⟨1,nm⟩)) else allL vs l clk0)
    else if k = 10 then (if truthS vs nm (decide (c = clk0)) ≠ 0 then truthS vs nm (decide (c = clk0)) else pairL vs l ⟨1,nm⟩ ⟨2,nm⟩)
    else allL vs l c
def allL (vs:List Var):List Ex→Clk→Int
  | [],_=>0
  | x :: xs,c=>if clkE vs x c ≠ 0 then clkE vs x c else allL vs xs c
def pairL (vs:List Var):List Ex→Clk→Clk→Int
  | [],_,_=>0
  | x :: xs,a,b=>if clkE vs x a ≠ 0 then clkE vs x a else hdL vs xs b
def hdL (vs:List Var):List Ex→Clk→Int
  | [],_=>0
  | x :: _,b=>clkE vs x b
end
theorem clkE_eq (vs:List Var) (x:Ex) (c:Clk):clkE vs x c =
    if x.kind = 3 then (if (findS vs x.name).2 = false then 19 else if (findS vs x.name).1.clk ≠ c then 21 else allL vs x.sub c)
    else if x.kind = 8 ∨ x.kind = 9 then (if truthS vs x.name (decide (c = if x.kind = 9 then ⟨2,x.name⟩ else ⟨1,x.name⟩)) ≠ 0 then truthS vs x.name (decide (c = if x.kind = 9 then ⟨2,x.name⟩ else ⟨1,x.name⟩)) else allL vs x.sub clk0)
    else if x.kind = 10 then (if truthS vs x.name (decide (c = clk0)) ≠ 0 then truthS vs x.name (decide (c = clk0)) else pairL vs x.sub ⟨1,x.name⟩ ⟨2,x.name⟩)
    else allL vs x.sub c:=by cases x;rw [clkE];rfl
theorem allL_nil (vs:List Var) (c:Clk):allL vs [] c = 0:=by rw [allL]
theorem allL_cons (vs:List Var) (x:Ex) (xs:List Ex) (c:Clk):allL vs (x :: xs) c = if clkE vs x c ≠ 0 then clkE vs x c else allL vs xs c:=by rw [allL]
theorem pairL_two (vs:List Var) (x y:Ex) (a b:Clk):pairL vs [x,y] a b = if clkE vs x a ≠ 0 then clkE vs x a else clkE vs y b:=by rw [pairL,hdL]
def AlI (vs:List Var) (l:List Ex) (c:Clk) (B:List Obj) (T:List Nat) (k:Nat) (e:Env) (H:St):Prop:=
  ∃ i,i ≤ l.length ∧ k = l.length - i ∧ allL vs l c = allL vs (l.drop i) c ∧
    e = [(0,.d (.sl (vs.map encVar))),(5,.ref B.length 0),(10,.d (.sl (encL l))),(11,.d (.int .i64 l.length)),(12,.d (.int .i64 i))] ∧
    H = ⟨B ++ [.cells [.d (.int .i64 c.kind),.d (.str c.name)]],T,none⟩
def ClkP (vs:List Var) (n:Nat):Prop:=∀ x:Ex,x.size ≤ n→x.fit = true→x.formed = true→∀ (c:Clk) (H:St),CallsA prg 245 [.d (.sl (vs.map encVar)),exV x,clkV c] H (.d (.int .i64 (clkE vs x c))) H
theorem all_c (vs:List Var) (hvl:vs.length ≤ 5000000) (n:Nat) (ih:ClkP vs n) (l:List Ex) (hs:sizeL l ≤ n) (hf:fitL l = true) (hfo:formedL l = true) (hl:l.length ≤ 1000000) (c:Clk) (H:St) :
    CallsA prg 262 [.d (.sl (vs.map encVar)),.d (.sl (encL l)),clkV c] H (.d (.int .i64 (allL vs l c))) H:=by
  unfold clkV
  refine calls_of2 rfl f262 ?_
  obtain ⟨B,T,lw⟩:=H
  simp only [go_sem,c262]
  refine loop_I (AlI vs l c B T) l.length ⟨0,Nat.zero_le _,rfl,rfl,rfl,rfl⟩ ?_
  rintro k e H ⟨i,hi,rfl,hv,rfl,rfl⟩
  simp only [go_sem,c262l0]
  refine WG_intro (fun h=>?_) fun h=>?_
  · have hlt:i < l.length:=by simpa using h
    obtain ⟨y,hy⟩:=at_of_lt hlt
    have hmem:=List.mem_of_getElem? hy
    have hyf:=fitL_mem hf hmem
    have hyo:=formedL_mem hfo hmem
    have hys:=sizeL_mem hmem
    have e2:(encL l)[i]? = some (encE y):=by rw [encL_at,hy];rfl
    have hrec:=fun H=>WCall_of (ih y (by omega) hyf hyo c H)
    unfold exV clkV at hrec
    simp only [go_sem] at hrec
    rw [drop_at hy,allL_cons] at hv
    simp only [go_sem,h,e2,hrec]
    refine WG_intro (fun h2=>?_) fun h2=>?_
    · have h2':clkE vs y c ≠ 0:=by simpa using h2
      simp only [go_sem,h2]
      rw [hv,if_pos h2']
    · have h2':clkE vs y c = 0:=by simpa using h2
      rw [if_neg (by simp [h2'])] at hv
      simp only [go_sem,h2]
      rw [wrap64 (by omega) (by omega)]
      exact ⟨_,by omega,i + 1,by omega,rfl,hv,rfl,rfl⟩
  have hlt:l.length ≤ i:=by simpa using h
  rw [List.drop_of_length_le hlt,allL_nil] at hv
  simp only [go_sem,h]
  rw [hv]
theorem clk_c (vs:List Var) (hvl:vs.length ≤ 5000000):∀ (n:Nat),ClkP vs n:=by
  intro n
  induction n with
  | zero=>intro x h;have:=size_pos x;omega
  | succ n ih=>
    intro x hx hf hfo c H
    have hlen:=formed_len hfo
    have hsz:=x.size_eq
    have hce:=clkE_eq vs x c
    rw [x.fit_eq] at hf
    simp only [Bool.and_eq_true,decide_eq_true_eq] at hf
    rw [x.formed_eq] at hfo
    simp only [Bool.and_eq_true] at hfo
    have hall:=fun c H=>WCall_of (all_c vs hvl n ih x.sub (by omega) hf.2.2 hfo.2 hf.2.1 c H)
    have hfi:=fun H=>WCall_of (find_c vs hvl x.name H)
    have htr:=fun ok H=>WCall_of (truth_c vs hvl x.name ok H)
    unfold clkV at hall
    simp only [encVar,dcells_cons,dcells_nil] at hfi
    have hall0:=hall clk0
    simp only [clk0] at hall0
    unfold exV clkV
    refine calls_of2 rfl f245 ?_
    obtain ⟨B,T,lw⟩:=H
    simp only [go_sem,c245]
    refine WG_intro (fun t1=>?_) fun t1=>?_
    · have hk:x.kind = 3:=by simpa using t1
      rw [if_pos hk] at hce
      simp only [go_sem,t1,hfi]
      refine WG_intro (fun t2=>?_) fun t2=>?_
      rotate_left
      · simp only [go_sem,t2]
        rw [hce,if_pos t2]
      rw [if_neg (by simp [t2])] at hce
      simp only [go_sem,t2]
      refine WG_intro (fun t3=>?_) fun t3=>?_
      · have h3:(findS vs x.name).1.clk = c:=by simpa using t3
        rw [if_neg (by simp [h3])] at hce
        simp only [go_sem,t3,hall]
        rw [hce]
      · have h3:¬ (findS vs x.name).1.clk = c:=by simpa using t3
        simp only [go_sem,t3]
        rw [hce,if_pos h3]
    have n3:x.kind ≠ 3:=by simpa using t1
    rw [if_neg n3] at hce
    simp only [go_sem,t1]
    refine WG_intro (fun t2=>?_) fun t2=>?_
    · have hk:x.kind = 8:=by simpa using t2
      rw [if_pos (by simp [hk])] at hce
      simp only [hk,Int.reduceEq,if_false,if_true] at hce
      simp only [go_sem,t2,hk]
      simp only [go_sem,htr]
      refine WG_intro (fun t3=>?_) fun t3=>?_
      · have h3:truthS vs x.name (decide (c = ⟨1,x.name⟩)) ≠ 0:=by simpa using t3
        rw [if_pos h3] at hce
        simp only [go_sem,t3]
        rw [hce]
      · have h3:truthS vs x.name (decide (c = ⟨1,x.name⟩)) = 0:=by simpa using t3
        rw [if_neg (by simp [h3])] at hce
        simp only [go_sem,t3,hall0]
        rw [hce]
    have n8:x.kind ≠ 8:=by simpa using t2
    simp only [go_sem,t2]
    refine WG_intro (fun t2=>?_) fun t2=>?_
    · have hk:x.kind = 9:=by simpa using t2
      rw [if_pos (by simp [hk])] at hce
      simp only [hk,Int.reduceEq,if_false,if_true] at hce
      simp only [go_sem,t2,hk]
      simp only [go_sem,htr]
      refine WG_intro (fun t3=>?_) fun t3=>?_
      · have h3:truthS vs x.name (decide (c = ⟨2,x.name⟩)) ≠ 0:=by simpa using t3
        rw [if_pos h3] at hce
        simp only [go_sem,t3]
        rw [hce]
      · have h3:truthS vs x.name (decide (c = ⟨2,x.name⟩)) = 0:=by simpa using t3
        rw [if_neg (by simp [h3])] at hce
        simp only [go_sem,t3,hall0]
        rw [hce]
    have n9:x.kind ≠ 9:=by simpa using t2
    rw [if_neg (by simp [n8,n9])] at hce
    simp only [go_sem,t2]
    refine WG_intro (fun t2=>?_) fun t2=>?_
    · have hk:x.kind = 10:=by simpa using t2
      rw [if_pos hk] at hce
      rw [hk] at hlen
      have hl2:∃ a b,x.sub = [a,b]:=by
        match hs:x.sub,hlen with
        | [a,b],_=>exact ⟨a,b,rfl⟩
        | [],h=>simp [formS] at h
        | [a],h=>simp [formS] at h
        | _ :: _ :: _ :: _,h=>simp [formS] at h;omega
      obtain ⟨a,b,hs⟩:=hl2
      rw [hs,pairL_two] at hce
      have ha:=ih a (by rw [hsz,hs,sizeL_cons,sizeL_cons] at hx;omega) (fitL_mem hf.2.2 (by rw [hs];simp)) (formedL_mem hfo.2 (by rw [hs];simp)) ⟨1,x.name⟩
      have hb:=ih b (by rw [hsz,hs,sizeL_cons,sizeL_cons] at hx;omega) (fitL_mem hf.2.2 (by rw [hs];simp)) (formedL_mem hfo.2 (by rw [hs];simp)) ⟨2,x.name⟩
      have ha:=fun H=>WCall_of (ha H)
      have hb:=fun H=>WCall_of (hb H)
      unfold exV clkV at ha hb
      simp only [go_sem] at ha hb
      simp only [go_sem,t2,htr]
      refine WG_intro (fun t3=>?_) fun t3=>?_
      · have h3:truthS vs x.name (decide (c = clk0)) ≠ 0:=by simpa using t3
        rw [if_pos h3] at hce
        simp only [go_sem,t3]
        rw [hce]
      have h3:truthS vs x.name (decide (c = clk0)) = 0:=by simpa using t3
      rw [if_neg (by simp [h3])] at hce
      simp only [go_sem,t3,hs,ha]
      refine WG_intro (fun t4=>?_) fun t4=>?_
      · have h4:clkE vs a ⟨1,x.name⟩ ≠ 0:=by simpa using t4
        rw [if_pos h4] at hce
        simp only [go_sem,t4]
        rw [hce]
      · have h4:clkE vs a ⟨1,x.name⟩ = 0:=by simpa using t4
        rw [if_neg (by simp [h4])] at hce
        simp only [go_sem,t4,hs,hb]
        rw [hce]
    have n10:x.kind ≠ 10:=by simpa using t2
    rw [if_neg n10] at hce
    simp only [go_sem,t2,hall]
    rw [hce]
def declA (vs:List Var) (i:Nat):Option Fault:=let e:=declS vs ((vs[i]?).getD var0);if e = 0 then none else some (2,(i:Int),e)
def clkA (vs:List Var) (eqs:List Eqn) (i:Nat):Option Fault:=
  let q:=(eqs[i]?).getD ⟨[],0,ex0,ex0⟩
  let e:=clkE vs q.e (findS vs q.name).1.clk
  if e = 0 then none else some (3,(i:Int),e)
def clocksS (p:Prog):Fault:=
  if kindsS p ≠ (0,0,0) then kindsS p
  else match upF (declA (varsS p)) 0 (varsS p).length with
    | some f=>f
    | none=>match upF (clkA (varsS p) p.eqs) 0 p.eqs.length with
      | some f=>f
      | none=>(0,0,0)
theorem kinds_whole {p:Prog} (h:kindsS p = (0,0,0)):wholeS p = true:=by
  by_cases h1:(printS p).2 = 0
  · exact print_whole h1
  · unfold kindsS at h
    simp only [ne_eq,h1,not_false_eq_true,if_true] at h
    cases h
def c0Objs (p:Prog):List Obj:=[cellsP p,.cells [.d (.int .i64 0),.d (.int .i64 0),.d (.int .i64 0)],.cells [.d (.int .i64 0),.d (.int .i64 0),.d (.int .i64 0)]]
def C1I (p:Prog) (B:List Obj) (T:List Nat) (k:Nat) (e:Env) (H:St):Prop:=
  ∃ i,i ≤ (varsS p).length ∧ k = (varsS p).length - i ∧ upF (declA (varsS p)) 0 (varsS p).length = upF (declA (varsS p)) i ((varsS p).length - i) ∧
    e = [(1,.ref B.length 0),(2,.ref (B.length + 1) 0),(4,.d (.sl ((varsS p).map encVar))),(21,.d (.sl ((varsS p).map encVar))),(22,.d (.int .i64 (varsS p).length)),(23,.d (.int .i64 i))] ∧
    H = ⟨B ++ c0Objs p,T,none⟩
def C2I (p:Prog) (B:List Obj) (T:List Nat) (k:Nat) (e:Env) (H:St):Prop:=
  ∃ i,i ≤ p.eqs.length ∧ k = p.eqs.length - i ∧ upF (clkA (varsS p) p.eqs) 0 p.eqs.length = upF (clkA (varsS p) p.eqs) i (p.eqs.length - i) ∧
    e = [(2,.ref (B.length + 1) 0),(4,.d (.sl ((varsS p).map encVar))),(38,.d (.sl (p.eqs.map encEq))),(39,.d (.int .i64 p.eqs.length)),(40,.d (.int .i64 i))] ∧
    H = ⟨B ++ c0Objs p,T,none⟩
theorem clocks_c (p:Prog) (hp:p.fit) (H:St):CallsA prg 212 [progV p] H (faultV (clocksS p)) H:=by
  have hkc:=fun H=>WCall_of (kinds_c p hp H)
  have hvc:=fun H=>WCall_of (vars_c p hp H)
  obtain ⟨hp1,hp2,hp3,hp4,hp5,hp6⟩:=hp
  have hl1:=hp2.1
  have hl2:=hp3.1
  have hl3:=hp4.1
  have hvl:(varsS p).length = p.ins.length + p.outs.length + p.locals.length:=by simp [varsS];omega
  unfold progV encProg at hkc hvc ⊢
  unfold faultV at hkc ⊢
  simp only [dcells_cons,dcells_nil] at hkc hvc ⊢
  have hK:clocksS p = clocksS p:=rfl
  conv at hK=>rhs;unfold clocksS
  refine calls_of2 rfl f212 ?_
  obtain ⟨B,T,lw⟩:=H
  simp only [go_sem,c212,hkc]
  refine WG_intro (fun t1=>?_) fun t1=>?_
  rotate_left
  · have:kindsS p ≠ (0,0,0):=of_decide_eq_false t1
    simp only [go_sem,t1]
    rw [hK,if_pos this]
  have hk0:kindsS p = (0,0,0):=of_decide_eq_true t1
  have hwh:=kinds_whole hk0
  rw [if_neg (by simp [hk0])] at hK
  simp only [go_sem,t1,hk0,hvc,List.length_map]
  clear hkc hvc
  refine loop_I (C1I p B T) (varsS p).length ⟨0,Nat.zero_le _,rfl,rfl,rfl,rfl⟩ ?_
  rintro k e H ⟨i,hi,rfl,hv,rfl,rfl⟩
  simp only [go_sem,c212l0,c0Objs]
  refine WG_intro (fun h=>?_) fun h=>?_
  · have hlt:i < (varsS p).length:=by simpa using h
    obtain ⟨v,hv0⟩:=at_of_lt hlt
    have e2:((varsS p).map encVar)[i]? = some (encVar v):=by simp [hv0]
    have hdc:=fun H=>WCall_of (declC_c (varsS p) (by omega) v H)
    simp only [encVar,dcells_cons,dcells_nil] at hdc
    rw [show (varsS p).length - i = ((varsS p).length - (i + 1)) + 1 by omega] at hv
    simp only [go_sem,h,e2,encVar,hdc]
    refine WG_intro (fun h2=>?_) fun h2=>?_
    · have hne:declS (varsS p) v ≠ 0:=by simpa using h2
      rw [upF_some (r:=(2,(i:Int),declS (varsS p) v)) (by simp [declA,hv0,hne])] at hv
      rw [hv] at hK
      simp only [go_sem,h2]
      rw [hK]
    · have heq:declS (varsS p) v = 0:=by simpa using h2
      rw [upF_none (by simp [declA,hv0,heq])] at hv
      simp only [go_sem,h2]
      rw [wrap64 (by omega) (by omega)]
      exact ⟨_,by omega,i + 1,by omega,rfl,hv,rfl,rfl⟩
  have hlt:(varsS p).length - i = 0:=by simp at h;omega
  rw [hlt] at hv
  rw [show upF (declA (varsS p)) 0 (varsS p).length = none from hv] at hK
  dsimp only at hK
  simp only [go_sem,h,List.length_map]
  clear hv h hlt hi i
  refine loop_I (C2I p B T) p.eqs.length ⟨0,Nat.zero_le _,rfl,rfl,rfl,rfl⟩ ?_
  rintro k e H ⟨i,hi,rfl,hv,rfl,rfl⟩
  simp only [go_sem,c212l1,c0Objs]
  refine WG_intro (fun h=>?_) fun h=>?_
  · have hlt:i < p.eqs.length:=by simpa using h
    obtain ⟨q,hq0⟩:=at_of_lt hlt
    have hmem:=List.mem_of_getElem? hq0
    obtain ⟨hq1,hq2,hq3⟩:=hp6 q hmem
    have hqf:=whole_eq hwh hmem
    have e2:(p.eqs.map encEq)[i]? = some (encEq q):=by simp [hq0]
    have hfi:=fun H=>WCall_of (find_c (varsS p) (by omega) q.name H)
    have hcc:=fun H=>WCall_of (clk_c (varsS p) (by omega) _ q.e (Nat.le_refl _) hq2 hqf.1 (findS (varsS p) q.name).1.clk H)
    simp only [encVar,dcells_cons,dcells_nil] at hfi
    unfold exV clkV at hcc
    simp only [go_sem] at hcc
    rw [show p.eqs.length - i = (p.eqs.length - (i + 1)) + 1 by omega] at hv
    simp only [go_sem,h,e2,encEq,hfi,hcc]
    refine WG_intro (fun h2=>?_) fun h2=>?_
    · have hne:clkE (varsS p) q.e (findS (varsS p) q.name).1.clk ≠ 0:=by simpa using h2
      rw [upF_some (r:=(3,(i:Int),clkE (varsS p) q.e (findS (varsS p) q.name).1.clk)) (by simp [clkA,hq0,hne])] at hv
      rw [hv] at hK
      simp only [go_sem,h2]
      rw [hK]
    · have heq:clkE (varsS p) q.e (findS (varsS p) q.name).1.clk = 0:=by simpa using h2
      rw [upF_none (by simp [clkA,hq0,heq])] at hv
      simp only [go_sem,h2]
      rw [wrap64 (by omega) (by omega)]
      exact ⟨_,by omega,i + 1,by omega,rfl,hv,rfl,rfl⟩
  have hlt:p.eqs.length - i = 0:=by simp at h;omega
  rw [hlt] at hv
  rw [show upF (clkA (varsS p) p.eqs) 0 p.eqs.length = none from hv] at hK
  dsimp only at hK
  simp only [go_sem,h]
  rw [hK]
end Am
namespace Am
open Go C
def WEndK (res:List HRes) (pol:RetPol) (H:St) (K:HV→St→Prop):Out→Env→St→Prop
  | .exit _,_,_=>False
  | _,e,H1=>WX (results e H1 res) fun vs=>K (finish pol H vs H1).1 (finish pol H vs H1).2
@[go_sem] theorem wendK_normal (res:List HRes) (pol:RetPol) (H:St) (K:HV→St→Prop) (e:Env) (H1:St):WEndK res pol H K .normal e H1 = WX (results e H1 res) fun vs=>K (finish pol H vs H1).1 (finish pol H vs H1).2:=(rfl)
@[go_sem] theorem wendK_ret (res:List HRes) (pol:RetPol) (H:St) (K:HV→St→Prop) (e:Env) (H1:St):WEndK res pol H K .ret e H1 = WX (results e H1 res) fun vs=>K (finish pol H vs H1).1 (finish pol H vs H1).2:=(rfl)
theorem wcall_of2 {p:HProg} {f:FuncId} {code:HC} {res:List HRes} {pol:RetPol} {args:List HV} {H:St} {K:HV→St→Prop} (h1:p.ext f = none) (h2:p.funs f = some ⟨code,res,[],pol⟩)
    (h:WC p code (WEndK res pol H K) (enter [] 0 args) { H with low:=none }):WCall p f args H K:=by
  obtain ⟨o,e,H1,h3,h4⟩:=WC_sound h
  cases o with
  | exit i=>cases h4
  | normal=>
    obtain ⟨vs,h5,h6⟩:=h4
    refine ⟨_,_,Ev.succ (h3.mono fun m hm=>?_),h6⟩
    simp only [callN,h1,h2,runFun,hm,h5,Option.map_some]
  | ret=>
    obtain ⟨vs,h5,h6⟩:=h4
    refine ⟨_,_,Ev.succ (h3.mono fun m hm=>?_),h6⟩
    simp only [callN,h1,h2,runFun,hm,h5,Option.map_some]
def SzI (x:Ex) (m:Int) (X:List Obj) (o:Nat) (T:List Nat) (k:Nat) (e:Env) (H:St):Prop:=
  ∃ (i:Nat) (c:Int),k = x.sub.length - i ∧ i ≤ x.sub.length ∧ 1 ≤ c ∧ c ≤ m ∧ min (c + sizeL (x.sub.drop i)) m = min (x.size:Int) m ∧
    e = [(1,.d (.int .i64 m)),(2,.ref o 0),(5,.d (.int .i64 c)),(6,.d (.int .i64 i))] ∧ H = ⟨X ++ [cellsE x],T,none⟩
theorem size_c:∀ (n:Nat) (x:Ex),x.size ≤ n→x.fit = true→∀ (m:Int) (H:St),1 ≤ m→m ≤ 1000000→CallsA prg 263 [exV x,.d (.int .i64 m)] H (.d (.int .i64 (min (x.size:Int) m))) H:=by
  intro n
  induction n with
  | zero=>intro x h;have:=size_pos x;omega
  | succ n ih=>
    intro x hx hf m H hm hm2
    unfold exV
    refine calls_of2 rfl f263 ?_
    obtain ⟨B,T,lw⟩:=H
    simp only [go_sem,c263]
    have hsz:=x.size_eq
    rw [x.fit_eq] at hf
    simp only [Bool.and_eq_true,decide_eq_true_eq] at hf
    refine loop_I (SzI x m B B.length T) x.sub.length ⟨0,1,rfl,Nat.zero_le _,Int.le_refl _,hm,?_,rfl,rfl⟩ ?_
    · rw [hsz];simp
    rintro k e H ⟨i,c,rfl,hi,hc,hcm,hv,rfl,rfl⟩
    simp only [go_sem,c263l0]
    refine WG_intro (fun h=>?_) fun h=>?_
    · have hlt:i < x.sub.length:=by simpa using h
      obtain ⟨y,hy⟩:=at_of_lt hlt
      have hmem:=List.mem_of_getElem? hy
      have hyf:=fitL_mem hf.2.2 hmem
      have hys:=sizeL_mem hmem
      have hyp:=size_pos y
      rw [drop_at hy,sizeL_cons] at hv
      have e2:(encL x.sub)[i]? = some (encE y):=by rw [encL_at,hy];rfl
      simp only [go_sem,h]
      refine WG_intro (fun h1=>?_) fun h1=>?_
      · have h1':c < m:=by simpa using h1
        have hrec:=fun H=>WCall_of (ih y (by omega) hyf (m - c) H (by omega) (by omega))
        unfold exV at hrec
        simp only [go_sem] at hrec
        have w1:IntKind.i64.wrap (m - c) = m - c:=wrap64 (by omega) (by omega)
        simp only [go_sem,h1,e2,hrec,w1]
        rw [wrap64 (by omega) (by omega),wrap64 (by omega) (by omega)]
        refine ⟨_,by omega,i + 1,c + min (y.size:Int) (m - c),rfl,by omega,by omega,by omega,?_,?_,?_⟩
        · omega
        · simp
        · rfl
      · have h1':m ≤ c:=by simpa using h1
        simp only [go_sem,h1]
        rw [show min (x.size:Int) m = c by omega]
    · have hlt:x.sub.length ≤ i:=by simpa using h
      rw [List.drop_of_length_le hlt,sizeL_nil] at hv
      simp only [go_sem,h]
      rw [show min (x.size:Int) m = c by omega]
def readyS (es:Ents Str) (l:List Str):Bool:=l.all fun s=>!(getM es s).isSome
def RdI (l:List Str) (es:Ents Str) (o:Nat) (B:List Obj) (T:List Nat) (k:Nat) (e:Env) (H:St):Prop:=
  ∃ i,i ≤ l.length ∧ k = l.length - i ∧ readyS es l = readyS es (l.drop i) ∧
    e = [(0,.map o),(9,.d (.sl (strRows l))),(10,.d (.int .i64 l.length)),(11,.d (.int .i64 i))] ∧ H = ⟨B,T,none⟩
theorem strRows_len (l:List Str):(strRows l).length = l.length:=by simp [strRows]
theorem strRows_at {l:List Str} {i:Nat} {s:Str} (h:l[i]? = some s):(strRows l)[i]? = some [.str s]:=by simp [strRows,h]
theorem ready_c (l:List Str) (hl:l.length ≤ 1000000) (es:Ents Str) (st:List Nat × Nat) (o:Nat) (hes:∀ s,∃ c:Int,(getM es s).getD [.int .i64 0] = [.int .i64 c]) (B:List Obj) (T:List Nat) (lw:Option Nat) (ho:B[o]? = some (mapO kS false es st)) :
    CallsA prg 214 [.map o,.d (.sl (strRows l))] ⟨B,T,lw⟩ (.d (.bool (readyS es l))) ⟨B,T,lw⟩:=by
  refine calls_of2 rfl f214 ?_
  simp only [go_sem,c214,strRows_len]
  have hol:=lt_of_some ho
  have hbo:decide (o < B.length) = true:=by simpa using hol
  refine loop_I (RdI l es o B T) l.length ⟨0,Nat.zero_le _,rfl,rfl,rfl,rfl⟩ ?_
  rintro k e H ⟨i,hi,rfl,hv,rfl,rfl⟩
  simp only [go_sem,c214l0]
  refine WG_intro (fun h=>?_) fun h=>?_
  · have hlt:i < l.length:=by simpa using h
    obtain ⟨s,hs⟩:=at_of_lt hlt
    have e2:=strRows_at hs
    obtain ⟨c,hc⟩:=hes s
    rw [drop_at hs] at hv
    simp only [go_sem,h,e2,ho,hc]
    refine WG_intro (fun h2=>?_) fun h2=>?_
    · simp only [go_sem,h2]
      rw [hv]
      unfold readyS
      rw [List.all_cons,h2];rfl
    · simp only [go_sem,h2,hbo]
      rw [wrap64 (by omega) (by omega)]
      refine ⟨_,by omega,i + 1,by omega,rfl,?_,rfl,rfl⟩
      rw [hv]
      unfold readyS
      rw [List.all_cons,h2];rfl
  have hlt:l.length ≤ i:=by simpa using h
  rw [List.drop_of_length_le hlt] at hv
  simp only [go_sem,h]
  rw [hv]
  simp [readyS]
structure WSt where
  es:Ents Str
  st:List Nat × Nat
  out:List Str
def cntM (es:Ents Str) (s:Str):Int:=match getM es s with
  | some [.int _ c]=>c
  | _=>0
def visit (w:WSt) (nm:Str):WSt:=
  if nm = [] then w else
  ⟨putM w.es nm [.int .i64 (cntM w.es nm + 1)],putT w.es nm w.st,if cntM w.es nm = 0 then w.out ++ [nm] else w.out⟩
mutual
def walkE:Ex→WSt→WSt
  | .mk _ _ nm l,w=>walkL l (visit w nm)
def walkL:List Ex→WSt→WSt
  | [],w=>w
  | x :: xs,w=>walkL xs (walkE x w)
end
theorem walkE_eq (x:Ex) (w:WSt):walkE x w = walkL x.sub (visit w x.name):=by cases x;rw [walkE];rfl
theorem walkL_nil (w:WSt):walkL [] w = w:=by rw [walkL]
theorem walkL_cons (x:Ex) (xs:List Ex) (w:WSt):walkL (x :: xs) w = walkL xs (walkE x w):=by rw [walkL]
def WSt.ok (w:WSt) (m:Nat):Prop:=(∀ s,(getM w.es s).getD [.int .i64 0] = [.int .i64 (cntM w.es s)] ∧ 0 ≤ cntM w.es s ∧ cntM w.es s ≤ m) ∧ w.out.length ≤ m
theorem WSt.ok.more {w:WSt} {m n:Nat} (h:w.ok m) (hn:m ≤ n):w.ok n:=⟨fun s=>⟨(h.1 s).1,(h.1 s).2.1,by have:=(h.1 s).2.2;omega⟩,by have:=h.2;omega⟩
theorem cntM_put (es:Ents Str) (a b:Str) (c:Int):cntM (putM es a [.int .i64 c]) b = if b = a then c else cntM es b:=by
  unfold cntM
  rw [getM_put]
  by_cases h:b = a <;> simp [h]
theorem visit_ok {w:WSt} {m:Nat} (h:w.ok m) (nm:Str):(visit w nm).ok (m + 1):=by
  unfold visit
  split
  · exact h.more (by omega)
  · refine ⟨fun s=>?_,?_⟩
    · simp only [getM_put,cntM_put]
      have h1:=h.1 nm
      have h2:=h.1 s
      by_cases hs:s = nm
      · simp only [hs,if_true,Option.getD_some]
        exact ⟨trivial,by omega,by omega⟩
      · simp only [hs,if_false]
        exact ⟨h2.1,h2.2.1,by omega⟩
    · dsimp only
      have:=h.2
      split
      · simp;omega
      · omega
theorem walk_ok:∀ (n:Nat) (x:Ex),x.size ≤ n→∀ (w:WSt) (m:Nat),w.ok m→(walkE x w).ok (m + x.size):=by
  intro n
  induction n with
  | zero=>intro x h;have:=size_pos x;omega
  | succ n ih=>
    intro x hx w m hw
    rw [walkE_eq,x.size_eq]
    rw [x.size_eq] at hx
    have key:∀ (l:List Ex) (w:WSt) (m:Nat),sizeL l ≤ n→w.ok m→(walkL l w).ok (m + sizeL l):=by
      intro l
      induction l with
      | nil=>intro w m _ h;rw [walkL_nil,sizeL_nil];exact h
      | cons y l ih2=>
        intro w m hs h
        rw [sizeL_cons] at hs
        rw [walkL_cons,sizeL_cons]
        have:=ih2 _ _ (by omega) (ih y (by omega) w m h)
        rw [show m + (y.size + sizeL l) = m + y.size + sizeL l by omega]
        exact this
    have:=key x.sub _ _ (by omega) (visit_ok hw x.name)
    rw [show m + (1 + sizeL x.sub) = m + 1 + sizeL x.sub by omega]
    exact this
def nObjs (x0:Ex) (n:Nat) (w:WSt) (T:List Nat):List Obj:=[cellsE x0,.cells [.own (strRows w.out) (tipT T 1 (strRows w.out))],mapO kS false w.es w.st,.cells [.map (n + 2)],.cells [.fn 264 [] [.ref (n + 3) 0,.ref (n + 1) 0,.ref (n + 4) 0]]]
def nArgs (n:Nat):List HV:=[.ref (n + 3) 0,.ref (n + 1) 0,.ref (n + 4) 0]
def WalkQ (x0:Ex) (B:List Obj) (T:List Nat) (Y:List Obj) (lw:Option Nat) (w w':WSt) (r:HV) (H:St):Prop:=
  r = .tup [] ∧ ∃ X lw',H = ⟨B ++ (nObjs x0 B.length w' T ++ (Y ++ X)),tipL T (strRows w'.out),lw'⟩ ∧ ((lw' = lw ∧ X = [] ∧ w'.out = w.out) ∨ lw' = minLow lw (some (B.length + 1)))
def WkI (x0 x:Ex) (B:List Obj) (T:List Nat) (Y:List Obj) (w we:WSt) (k:Nat) (e:Env) (H:St):Prop:=
  ∃ (i q:Nat) (w2:WSt) (X:List Obj) (low:Option Nat),i ≤ x.sub.length ∧ k = x.sub.length - i ∧ w2.ok q ∧ q + sizeL (x.sub.drop i) ≤ 1000 ∧ walkL (x.sub.drop i) w2 = we ∧
    ((low = none ∧ X = [] ∧ w2.out = w.out) ∨ low = some (B.length + 1)) ∧
    e = [(3,.ref (B.length + 4) 0),(26,.d (.sl (encL x.sub))),(27,.d (.int .i64 x.sub.length)),(28,.d (.int .i64 i))] ∧
    H = ⟨B ++ (nObjs x0 B.length w2 T ++ (Y ++ cellsE x :: X)),tipL T (strRows w2.out),low⟩
theorem walk_c (x0:Ex) (B:List Obj) (T:List Nat):∀ (n:Nat) (x:Ex),x.size ≤ n→x.fit = true→∀ (Y:List Obj) (lw:Option Nat) (w:WSt) (m:Nat),w.ok m→m + x.size ≤ 1000 →
    WCall prg 264 (exV x :: nArgs B.length) ⟨B ++ (nObjs x0 B.length w T ++ Y),tipL T (strRows w.out),lw⟩ (WalkQ x0 B T Y lw w (walkE x w)):=by
  intro n
  induction n with
  | zero=>intro x h;have:=size_pos x;omega
  | succ n ih=>
    intro x hx hf Y lw w m hw hm
    have hsz:=x.size_eq
    rw [x.fit_eq] at hf
    simp only [Bool.and_eq_true,decide_eq_true_eq] at hf
    have hvo:=visit_ok hw x.name
    have loopP:∀ (w1:WSt) (low:Option Nat),w1 = visit w x.name→((low = none ∧ w1.out = w.out) ∨ low = some (B.length + 1)) →
        WC prg (.loop [3,26,27,28] c264l0) (kBlock 0 [] (WEndK [] .shut ⟨B ++ (nObjs x0 B.length w T ++ Y),tipL T (strRows w.out),lw⟩ (WalkQ x0 B T Y lw w (walkE x w))))
          [(3,.ref (B.length + 4) 0),(26,.d (.sl (encL x.sub))),(27,.d (.int .i64 x.sub.length)),(28,.d (.int .i64 0))]
          ⟨B ++ (nObjs x0 B.length w1 T ++ (Y ++ [cellsE x])),tipL T (strRows w1.out),low⟩:=by
      rintro w1 low rfl hlow
      refine loop_I (WkI x0 x B T Y w (walkE x w)) x.sub.length ⟨0,m + 1,_,[],low,Nat.zero_le _,rfl,hvo,by simp;omega,(walkE_eq x w).symm,?_,rfl,rfl⟩ ?_
      · rcases hlow with ⟨h1,h2⟩ | h1
        · exact .inl ⟨h1,rfl,h2⟩
        · exact .inr h1
      rintro k e H ⟨i,q,w2,X,low,hi,rfl,hw2,hq,hv,hl,rfl,rfl⟩
      simp only [go_sem,c264l0,nObjs]
      refine WG_intro (fun h=>?_) fun h=>?_
      · have hlt:i < x.sub.length:=by simpa using h
        obtain ⟨y,hy⟩:=at_of_lt hlt
        have hmem:=List.mem_of_getElem? hy
        have hyf:=fitL_mem hf.2.2 hmem
        have hys:=sizeL_mem hmem
        have e2:(encL x.sub)[i]? = some (encE y):=by rw [encL_at,hy];rfl
        rw [drop_at hy,walkL_cons] at hv
        rw [drop_at hy,sizeL_cons] at hq
        have hrec:=ih y (by omega) hyf (Y ++ cellsE x :: (X ++ [cellsE y])) none w2 q hw2 (by omega)
        unfold exV nArgs at hrec
        simp only [go_sem,nObjs] at hrec
        simp only [go_sem,h,e2]
        refine WCall.mono ?_ hrec
        rintro r H' ⟨rfl,X',lw',rfl,hl'⟩
        have hb:decide (4 < Y.length + (X.length + 1) + 1 + 1 + 1 + 1 + 1) = true:=by simp
        have hwi:IntKind.i64.wrap ((i:Int) + 1) = ((i + 1:Nat):Int):=by rw [wrap64 (by omega) (by omega)];omega
        have hok:=walk_ok _ y (Nat.le_refl _) w2 q hw2
        rcases hl' with ⟨rfl,rfl,hout⟩ | rfl
        · simp only [go_sem,nObjs,hb,hwi]
          refine ⟨_,by omega,i + 1,q + y.size,walkE y w2,X,low,by omega,rfl,hok,by omega,hv,?_,rfl,rfl⟩
          rcases hl with ⟨h1,h2,h3⟩ | h1
          · exact .inl ⟨h1,h2,by rw [hout,h3]⟩
          · exact .inr h1
        · have hb2:lowOk (B.length + (Y.length + (X.length + 1) + 1 + 1 + 1 + 1 + 1)) (some (B.length + 1)) = false:=by simp [lowOk]
          have hb3:minLow low (some (B.length + 1)) = some (B.length + 1):=by rcases hl with ⟨rfl,_⟩ | rfl <;> simp [minLow]
          rw [show minLow none (some (B.length + 1)) = some (B.length + 1) from rfl]
          simp only [go_sem,nObjs,hb2,hwi,hb3]
          exact ⟨_,by omega,i + 1,q + y.size,walkE y w2,X ++ cellsE y :: X',some (B.length + 1),by omega,rfl,hok,by omega,hv,.inr rfl,rfl,by simp [nObjs,cellsE]⟩
      · have hlt:x.sub.length ≤ i:=by simpa using h
        rw [List.drop_of_length_le hlt,walkL_nil] at hv
        subst hv
        simp only [go_sem,h]
        rcases hl with ⟨rfl,rfl,hout⟩ | rfl
        · simp only [go_sem]
          rw [hout,List.take_length]
          exact ⟨rfl,[],lw,by simp [nObjs,cellsE,hout],.inl ⟨rfl,rfl,hout⟩⟩
        · have hb2:lowOk (B.length + (Y.length + 1 + 1 + 1 + 1 + 1)) (some (B.length + 1)) = false:=by simp [lowOk]
          simp only [go_sem,hb2]
          exact ⟨rfl,cellsE x :: X,_,by simp [nObjs,cellsE],.inr rfl⟩
    refine wcall_of2 rfl f264 ?_
    unfold exV nArgs
    simp only [go_sem,c264,nObjs]
    refine WG_intro (fun t1=>?_) fun t1=>?_
    · have hn:x.name = []:=by simpa using t1
      have:=loopP w none (by simp [visit,hn]) (.inl ⟨rfl,rfl⟩)
      simp only [go_sem,t1]
      exact this
    · have hn:x.name ≠ []:=by simpa using t1
      have hc:=(hw.1 x.name)
      have hvis:visit w x.name = ⟨putM w.es x.name [.int .i64 (cntM w.es x.name + 1)],putT w.es x.name w.st,if cntM w.es x.name = 0 then w.out ++ [x.name] else w.out⟩:=by simp [visit,hn]
      have hwr:IntKind.i64.wrap (cntM w.es x.name + 1) = cntM w.es x.name + 1:=wrap64 (by omega) (by omega)
      simp only [go_sem,t1,hc.1,hwr,getM_put,Option.getD_some]
      refine WG_intro (fun t2=>?_) fun t2=>?_
      · have hz:cntM w.es x.name = 0:=by simp at t2;omega
        have hap:∀ (B:List Obj) (lw:Option Nat) (s:Str),appendV ⟨B,tipL T (strRows w.out),lw⟩ 1 (.own (strRows w.out) (tipT T 1 (strRows w.out))) [[.str s]] = some (.own (strRows w.out ++ [[.str s]]) (tipT T 1 (strRows w.out ++ [[.str s]])),⟨B,tipL T (strRows w.out ++ [[.str s]]),lw⟩):=
          fun B lw s=>appendV_own (by simp) (by simp [strRows]) (by have:=hw.2;simp [roomN,strRows];omega)
        have:=loopP (visit w x.name) (some (B.length + 1)) rfl (.inr rfl)
        rw [hvis,if_pos hz] at this
        have hsr:strRows (w.out ++ [x.name]) = strRows w.out ++ [[.str x.name]]:=by simp [strRows]
        have hloose:HV.loose1 (.own (strRows w.out ++ [[.str x.name]]) (tipT T 1 (strRows w.out ++ [[.str x.name]]))) = true:=by simp [tipT,HV.loose1]
        simp only [nObjs,hsr] at this
        simp only [go_sem,t2,hap,hloose]
        exact this
      · have hz:cntM w.es x.name ≠ 0:=by simp at t2;omega
        have:=loopP (visit w x.name) none rfl (.inl ⟨rfl,by rw [hvis];simp [hz]⟩)
        rw [hvis,if_neg hz] at this
        simp only [go_sem,t2]
        exact this
end Am
namespace Am
open Go C
def w0:WSt:=⟨[],([],0),[]⟩
theorem w0_ok:w0.ok 0:=⟨fun s=>by simp [w0,getM,cntM],by simp [w0]⟩
def needsS (x:Ex):List Str:=if 120 < x.size then [] else (walkE x w0).out
@[go_sem] theorem minLow_34 (a:Nat):minLow (some (a + 3)) (some (a + 4)) = some (a + 3):=by simp [minLow]
theorem finish_keep {B X:List Obj} {T:List Nat} {lw low:Option Nat} {rows:List (List D)} {sz:Nat} (h:lowOk B.length low = true) :
    finish .keepTip ⟨B,T,lw⟩ [.own rows (tipT T sz rows)] ⟨B ++ X,tipL T rows,low⟩ = (.own rows (tipT T sz rows),⟨B,tipL T rows,lw⟩):=by
  by_cases hr:rows = []
  · subst hr
    simp [finish,tipT,tipL,h,oneOrTup]
  · simp [finish,tipT,tipL,h,oneOrTup,hr]
theorem finish_keep0 {B X:List Obj} {T:List Nat} {lw:Option Nat}:finish .keepTip ⟨B,T,lw⟩ [.own [] .exact] ⟨B ++ X,T,none⟩ = (.own [] .exact,⟨B,T,lw⟩):=by
  simp [finish,lowOk,oneOrTup]
theorem needs_c (x:Ex) (hf:x.fit = true) (B:List Obj) (T:List Nat) (lw:Option Nat):CallsA prg 246 [exV x] ⟨B,T,lw⟩ (.own (strRows (needsS x)) (tipT T 1 (strRows (needsS x)))) ⟨B,tipL T (strRows (needsS x)),lw⟩:=by
  have h1:=fun H=>WCall_of (size_c _ x (Nat.le_refl _) hf 121 H (by omega) (by omega))
  unfold exV at h1 ⊢
  simp only [go_sem] at h1
  refine calls_of2 rfl f246 ?_
  simp only [go_sem,c246,h1]
  refine WG_intro (fun t1=>?_) fun t1=>?_
  · have:120 < x.size:=by simp at t1;omega
    simp only [go_sem,t1,finish_keep0]
    simp [needsS,this,strRows,tipT,tipL]
  have hs:¬ 120 < x.size:=by simp at t1;omega
  have hw:=walk_c x B T _ x (Nat.le_refl _) hf [] (some (B.length + 3)) w0 0 w0_ok (by omega)
  unfold exV nArgs at hw
  simp only [nObjs,w0,go_sem,strRows,List.map_nil,tip_nil,tipL_nil] at hw
  simp only [go_sem,t1,bnd,intOf]
  refine WCall.mono ?_ hw
  rintro r H' ⟨rfl,X,lw',rfl,hl⟩
  have hlo:lowOk B.length lw' = true:=by
    rcases hl with ⟨rfl,_⟩ | rfl <;> simp [lowOk,minLow]
  have hn:(walkE x { es:=[],st:=([],0),out:=[] }).out = needsS x:=by simp [needsS,hs,w0]
  simp only [go_sem,nObjs,hlo,hn]
  rw [finish_keep hlo]
end Am
