/- A part of the proof of BuildAgain: no condition of its own. Whence: AmStart3, AmStart4, AmStart5, AmMean1, AmMean2, AmMean3, AmMean4. -/
import Derived.Test.YtgepkelfblhpnaaGreatDoorA30
set_option linter.all false
namespace Am
open Go C
theorem pickI_range (p:Prog) (es:Ents Str):∀ (m i:Nat) (least:Int),i + m ≤ p.eqs.length→(pickI p es i m least).1 = -1 ∨ ∃ k:Nat,k < p.eqs.length ∧ (pickI p es i m least).1 = (k:Int):=by
  intro m
  induction m with
  | zero=>intro i least _;exact .inl rfl
  | succ m ih=>
    intro i least h
    rw [pickI]
    split
    · dsimp only
      split
      · exact .inr ⟨i,by omega,rfl⟩
      · exact ih (i + 1) _ (by omega)
    · exact ih (i + 1) _ (by omega)
theorem orderF_range (p:Prog):∀ (n:Nat) (es:Ents Str) (out:List Int),(∀ x ∈ out,∃ k:Nat,k < p.eqs.length ∧ x = (k:Int))→∀ x ∈ (orderF p n es out).1,∃ k:Nat,k < p.eqs.length ∧ x = (k:Int):=by
  intro n
  induction n with
  | zero=>intro es out h;exact h
  | succ n ih=>
    intro es out h
    rw [orderF]
    split
    · exact h
    · dsimp only
      split
      · intro x hx;simp at hx
      · rename_i hneg
        refine ih _ _ ?_
        intro x hx
        rw [List.mem_append] at hx
        rcases hx with hx | hx
        · exact h x hx
        · simp only [List.mem_singleton] at hx
          subst hx
          rcases pickI_range p es p.eqs.length 0 (-1) (by omega) with h1 | h1
          · rw [h1] at hneg;omega
          · exact h1
theorem order_range (p:Prog):∀ x ∈ (orderS p).1,∃ k:Nat,k < p.eqs.length ∧ x = (k:Int):=by
  unfold orderS
  split
  · intro x hx;simp at hx
  · exact orderF_range p _ _ _ (by simp)
def preM (eqs:List Eqn):Nat→Ents Str
  | 0=>[]
  | j + 1=>if (eqAtN eqs j).delay = 2 then putM (preM eqs j) (eqAtN eqs j).name [.int .i64 1] else preM eqs j
def preN (eqs:List Eqn):Nat→List Nat × Nat
  | 0=>([],0)
  | j + 1=>if (eqAtN eqs j).delay = 2 then putT (preM eqs j) (eqAtN eqs j).name (preN eqs j) else preN eqs j
def lseS (eqs:List Eqn):List Int→Ents Str × (List Nat × Nat)→Ents Str × (List Nat × Nat)
  | [],s=>s
  | i :: is,s=>let q:=eqAtN eqs i.toNat
    lseS eqs is (if reachE (hitE s.1) q.e then (putM s.1 q.name [.int .i64 1],putT s.1 q.name s.2) else s)
def looseS (p:Prog):Ents Str × (List Nat × Nat):=lseS p.eqs (orderS p).1 (preM p.eqs p.eqs.length,preN p.eqs p.eqs.length)
theorem intsM_put {es:Ents Str} (h:intsM es) (a:Str) (c:Int):intsM (putM es a [.int .i64 c]):=by
  induction es with
  | nil=>intro p hp;simp [putM] at hp;subst hp;exact ⟨c,rfl⟩
  | cons q es ih=>
    obtain ⟨b,w⟩:=q
    have h':intsM es:=fun p hp=>h p (by simp [hp])
    simp only [putM]
    split
    · intro p hp
      cases hp with
      | head=>exact ⟨c,rfl⟩
      | tail _ hp=>exact h' p hp
    · intro p hp
      cases hp with
      | head=>exact h _ (by simp)
      | tail _ hp=>exact ih h' p hp
theorem preM_ints (eqs:List Eqn) (j:Nat):intsM (preM eqs j):=by
  induction j with
  | zero=>intro p hp;simp [preM] at hp
  | succ j ih=>rw [preM];split;exact intsM_put ih _ _;exact ih
theorem lseS_ints (eqs:List Eqn) (is:List Int):∀ s:Ents Str × (List Nat × Nat),intsM s.1→intsM (lseS eqs is s).1:=by
  induction is with
  | nil=>intro s h;exact h
  | cons i is ih=>
    intro s h
    rw [lseS]
    refine ih _ ?_
    split
    · exact intsM_put h _ _
    · exact h
theorem looseS_ints (p:Prog):intsM (looseS p).1:=lseS_ints _ _ _ (preM_ints _ _)
end Am
namespace Am
open Go C
def z3:Obj:=.cells [.d (.int .i64 0),.d (.int .i64 0),.d (.int .i64 0)]
def fObjs (p:Prog) (s:Ents Str × (List Nat × Nat)):List Obj:=[cellsP p,z3,z3,mapO kS false s.1 s.2]
def F1I (p:Prog) (B:List Obj) (T:List Nat) (k:Nat) (e:Env) (H:St):Prop:=
  ∃ i,i ≤ p.eqs.length ∧ k = p.eqs.length - i ∧
    e = [(1,.ref B.length 0),(3,.ref (B.length + 1) 0),(4,.d (.sl (intRows (orderS p).1))),(5,.ref (B.length + 2) 0),(6,.map (B.length + 3)),(22,.d (.sl (p.eqs.map encEq))),(23,.d (.int .i64 p.eqs.length)),(24,.d (.int .i64 i))] ∧
    H = ⟨B ++ fObjs p (preM p.eqs i,preN p.eqs i),T,none⟩
def F2I (p:Prog) (B:List Obj) (T:List Nat) (k:Nat) (e:Env) (H:St):Prop:=
  ∃ (i:Nat) (s:Ents Str × (List Nat × Nat)),i ≤ (orderS p).1.length ∧ k = (orderS p).1.length - i ∧ intsM s.1 ∧ looseS p = lseS p.eqs ((orderS p).1.drop i) s ∧
    e = [(1,.ref B.length 0),(3,.ref (B.length + 1) 0),(5,.ref (B.length + 2) 0),(6,.map (B.length + 3)),(35,.d (.sl (intRows (orderS p).1))),(36,.d (.int .i64 (orderS p).1.length)),(37,.d (.int .i64 i))] ∧
    H = ⟨B ++ fObjs p s,T,none⟩
theorem intRows_len (l:List Int):(intRows l).length = l.length:=by simp [intRows]
theorem find2_c (p:Prog) (hp:p.fit) (hlo:(orderS p).1.length ≤ 2000000) (B:List Obj) (T:List Nat) (lw:Option Nat) :
    ((orderS p).2 ≠ (0,0,0)→CallsA prg 257 [progV p] ⟨B,T,lw⟩ (.tup [.d .nilm,faultV (orderS p).2]) ⟨B,T,lw⟩) ∧
    ((orderS p).2 = (0,0,0)→(wholeS p = true)→(∀ q ∈ p.eqs,q.e.size ≤ 120)→CallsA prg 257 [progV p] ⟨B,T,lw⟩ (.tup [.map (B.length + 3),faultV (0,0,0)]) ⟨B ++ fObjs p (looseS p),T,lw⟩):=by
  have hoc:=fun H=>WCall_of (order_c p hp H)
  obtain ⟨hp1,hp2,hp3,hp4,hp5,hp6⟩:=hp
  unfold progV encProg at hoc ⊢
  unfold faultV at hoc ⊢
  simp only [dcells_cons,dcells_nil] at hoc ⊢
  constructor
  · intro hne
    have hd:decide (((orderS p).2.1,(orderS p).2.2.1,(orderS p).2.2.2) = (0,0,0)) = false:=decide_eq_false hne
    refine calls_of2 rfl f257 ?_
    simp only [go_sem,c257,hoc,hd]
  · intro h0 hwh hsz
    have hd:decide (((orderS p).2.1,(orderS p).2.2.1,(orderS p).2.2.2) = (0,0,0)) = true:=decide_eq_true h0
    refine calls_of2 rfl f257 ?_
    simp only [go_sem,c257,hoc,hd,h0,bnd,intOf,List.length_map]
    refine loop_I (F1I p B T) p.eqs.length ⟨0,Nat.zero_le _,rfl,rfl,rfl⟩ ?_
    rintro k e H ⟨i,hi,rfl,rfl,rfl⟩
    simp only [go_sem,c257l0,fObjs,z3]
    refine WG_intro (fun h=>?_) fun h=>?_
    · have hlt:i < p.eqs.length:=by simpa using h
      obtain ⟨q,hq0⟩:=at_of_lt hlt
      have hqn:eqAtN p.eqs i = q:=by simp [eqAtN,hq0]
      have e2:(p.eqs.map encEq)[i]? = some (encEq q):=by simp [hq0]
      have hwi:IntKind.i64.wrap ((i:Int) + 1) = ((i + 1:Nat):Int):=by rw [wrap64 (by omega) (by omega)];omega
      simp only [go_sem,h,e2,encEq]
      refine WG_intro (fun h2=>?_) fun h2=>?_
      · have hdl:q.delay = 2:=by simpa using h2
        simp only [go_sem,h2,hwi]
        exact ⟨_,by omega,i + 1,by omega,rfl,rfl,by simp [preM,preN,hqn,hdl,fObjs,z3,cellsP]⟩
      · have hdl:q.delay ≠ 2:=by simpa using h2
        simp only [go_sem,h2,hwi]
        exact ⟨_,by omega,i + 1,by omega,rfl,rfl,by simp [preM,preN,hqn,hdl,fObjs,z3,cellsP]⟩
    have hlt:i = p.eqs.length:=by have:=of_decide_eq_false h;omega
    subst hlt
    simp only [go_sem,h,intRows_len]
    clear hoc h hi
    refine loop_I (F2I p B T) (orderS p).1.length ⟨0,_,Nat.zero_le _,rfl,preM_ints _ _,rfl,rfl,rfl⟩ ?_
    rintro k e H ⟨i,s,hi,rfl,hs,hv,rfl,rfl⟩
    simp only [go_sem,c257l1,fObjs,z3]
    refine WG_intro (fun h=>?_) fun h=>?_
    · have hlt:i < (orderS p).1.length:=by simpa using h
      obtain ⟨x,hx0⟩:=at_of_lt hlt
      obtain ⟨k,hk,rfl⟩:=order_range p x (List.mem_of_getElem? hx0)
      obtain ⟨q,hq0⟩:=at_of_lt hk
      have hmem:=List.mem_of_getElem? hq0
      have hqn:eqAtN p.eqs k = q:=by simp [eqAtN,hq0]
      have e1:(intRows (orderS p).1)[i]? = some [.int .i64 (k:Int)]:=by simp [intRows,hx0]
      have e2:(p.eqs.map encEq)[k]? = some (encEq q):=by simp [hq0]
      have hwi:IntKind.i64.wrap ((i:Int) + 1) = ((i + 1:Nat):Int):=by rw [wrap64 (by omega) (by omega)];omega
      have hrc:=fun T lw=>WCall_of (reach_c q.e (by have:=hsz q hmem;omega) (whole_eq hwh hmem).1 s.1 hs s.2 (B.length + 3) (B ++ fObjs p s) T lw
        (by unfold fObjs;rw [List.getElem?_append_right (by omega),show B.length + 3 - B.length = 3 by omega];rfl))
      unfold exV at hrc
      simp only [fObjs,z3,cellsP_eq,go_sem] at hrc
      rw [drop_at hx0,lseS] at hv
      simp only [Int.toNat_natCast,hqn] at hv
      simp only [go_sem,h,e1,e2,encEq,hrc]
      refine WG_intro (fun h2=>?_) fun h2=>?_
      · rw [if_pos h2] at hv
        simp only [go_sem,h2,hwi,e2,encEq]
        exact ⟨_,by omega,i + 1,_,by omega,rfl,intsM_put hs _ _,hv,rfl,rfl⟩
      · rw [if_neg (by simp [h2])] at hv
        simp only [go_sem,h2,hwi]
        exact ⟨_,by omega,i + 1,s,by omega,rfl,hs,hv,rfl,rfl⟩
    have hlt:(orderS p).1.length ≤ i:=by have:=of_decide_eq_false h;omega
    rw [List.drop_of_length_le hlt,lseS] at hv
    subst hv
    simp only [go_sem,h]
end Am
namespace Am
open Go C
def outM (vs:List Var):Nat→Ents Str
  | 0=>[]
  | j + 1=>putM (outM vs j) ((vs[j]?).getD var0).name [.int .i64 1]
def outN (vs:List Var):Nat→List Nat × Nat
  | 0=>([],0)
  | j + 1=>putT (outM vs j) ((vs[j]?).getD var0).name (outN vs j)
theorem outM_ints (vs:List Var) (j:Nat):intsM (outM vs j):=by
  induction j with
  | zero=>intro p hp;simp [outM] at hp
  | succ j ih=>exact intsM_put ih _ _
def badQ (p:Prog) (q:Eqn):Bool:=
  let l:=(looseS p).1
  tornE (hitE l) q.e || (decide ((clkAt (varsS p) q.name).kind ≠ 0) && hitE l (clkAt (varsS p) q.name).name ||
    ((decide (q.delay ≠ 0) && reachE (hitE l) q.e) || (hitE (outM p.outs p.outs.length) q.name && hitE l q.name)))
def badA (p:Prog) (i:Nat):Option Fault:=if badQ p (eqAtN p.eqs i) then some (3,(i:Int),23) else none
def startS (p:Prog):Fault:=if (orderS p).2 ≠ (0,0,0) then (orderS p).2 else match upF (badA p) 0 p.eqs.length with
  | some f=>f
  | none=>(0,0,0)
def sObjs (p:Prog) (a:Ents Str) (a':List Nat × Nat) (b:Ents Str) (b':List Nat × Nat):List Obj:=[cellsP p,z3,cellsP p,z3,z3,mapO kS false (looseS p).1 (looseS p).2,z3,mapO kS true a a',mapO kS false b b']
def S1I (p:Prog) (B:List Obj) (T:List Nat) (k:Nat) (e:Env) (H:St):Prop:=
  ∃ i,i ≤ (varsS p).length ∧ k = (varsS p).length - i ∧
    e = [(1,.ref B.length 0),(2,.ref (B.length + 1) 0),(3,.map (B.length + 5)),(5,.map (B.length + 7)),(6,.map (B.length + 8)),(28,.d (.sl ((varsS p).map encVar))),(29,.d (.int .i64 (varsS p).length)),(30,.d (.int .i64 i))] ∧
    H = ⟨B ++ sObjs p (clkM (varsS p) i) (clkN (varsS p) i) [] ([],0),T,none⟩
def S2I (p:Prog) (B:List Obj) (T:List Nat) (k:Nat) (e:Env) (H:St):Prop:=
  ∃ i,i ≤ p.outs.length ∧ k = p.outs.length - i ∧
    e = [(1,.ref B.length 0),(2,.ref (B.length + 1) 0),(3,.map (B.length + 5)),(5,.map (B.length + 7)),(6,.map (B.length + 8)),(41,.d (.sl (p.outs.map encVar))),(42,.d (.int .i64 p.outs.length)),(43,.d (.int .i64 i))] ∧
    H = ⟨B ++ sObjs p (clkM (varsS p) (varsS p).length) (clkN (varsS p) (varsS p).length) (outM p.outs i) (outN p.outs i),T,none⟩
def S3I (p:Prog) (B:List Obj) (T:List Nat) (k:Nat) (e:Env) (H:St):Prop:=
  ∃ i,i ≤ p.eqs.length ∧ k = p.eqs.length - i ∧ upF (badA p) 0 p.eqs.length = upF (badA p) i (p.eqs.length - i) ∧
    e = [(2,.ref (B.length + 1) 0),(3,.map (B.length + 5)),(5,.map (B.length + 7)),(6,.map (B.length + 8)),(52,.d (.sl (p.eqs.map encEq))),(53,.d (.int .i64 p.eqs.length)),(54,.d (.int .i64 i))] ∧
    H = ⟨B ++ sObjs p (clkM (varsS p) (varsS p).length) (clkN (varsS p) (varsS p).length) (outM p.outs p.outs.length) (outN p.outs p.outs.length),T,none⟩
theorem order_whole {p:Prog} (h:(orderS p).2 = (0,0,0)):clocksS p = (0,0,0) ∧ wholeS p = true:=by
  by_cases h1:clocksS p = (0,0,0)
  · exact ⟨h1,(clocks_whole h1).2⟩
  · unfold orderS at h
    rw [if_pos h1] at h
    exact absurd h h1
theorem whole_size {p:Prog} (h:wholeS p = true):∀ q ∈ p.eqs,q.e.size ≤ 120:=by
  intro q hq
  unfold wholeS at h
  simp only [Bool.and_eq_true,List.all_eq_true] at h
  have:=h.2.2.2.2 q hq
  unfold eqOkS at this
  simp only [Bool.and_eq_true,decide_eq_true_eq] at this
  exact right_size this.2.1
theorem orderF_len (p:Prog):∀ (n:Nat) (es:Ents Str) (out:List Int),(orderF p n es out).1.length ≤ n + out.length:=by
  intro n
  induction n with
  | zero=>intro es out;simp [orderF]
  | succ n ih=>
    intro es out
    rw [orderF]
    split
    · dsimp only;omega
    · dsimp only
      split
      · simp
      · refine Nat.le_trans (ih _ _) ?_
        simp;omega
theorem order_len (p:Prog):(orderS p).1.length ≤ p.eqs.length + 1:=by
  unfold orderS
  split
  · simp
  · have:=orderF_len p ((leftM p.eqs p.eqs.length).length + 1) (leftM p.eqs p.eqs.length) []
    have:=(leftM_ok p p.eqs.length (Nat.le_refl _)).2.2
    simp at *;omega
theorem cnt_get {es:Ents Str} (h:intsM es) (s:Str):(getM es s).getD [.int .i64 0] = [.int .i64 (cntM es s)]:=by
  unfold cntM
  rcases intsM_get h s with h1 | ⟨c,h1⟩ <;> rw [h1] <;> rfl
theorem start_c (p:Prog) (hp:p.fit) (H:St):CallsA prg 238 [progV p] H (faultV (startS p)) H:=by
  have hol:=order_len p
  have hfi:=fun B T lw=>find2_c p hp (by have:=hp.2.2.2.2.1;omega) B T lw
  have hvc:=fun H=>WCall_of (vars_c p hp H)
  obtain ⟨hp1,hp2,hp3,hp4,hp5,hp6⟩:=hp
  have hl1:=hp2.1
  have hl2:=hp3.1
  have hl3:=hp4.1
  have hvl:(varsS p).length = p.ins.length + p.outs.length + p.locals.length:=by simp [varsS];omega
  have hK:startS p = startS p:=rfl
  conv at hK=>rhs;unfold startS
  by_cases h0:(orderS p).2 = (0,0,0)
  case neg=>
    rw [if_pos h0] at hK
    have hf:=fun B T lw=>WCall_of ((hfi B T lw).1 h0)
    unfold progV encProg at hf ⊢
    unfold faultV at hf ⊢
    simp only [dcells_cons,dcells_nil] at hf ⊢
    have hd:decide (((orderS p).2.1,(orderS p).2.2.1,(orderS p).2.2.2) = (0,0,0)) = false:=decide_eq_false h0
    refine calls_of2 rfl f238 ?_
    obtain ⟨B,T,lw⟩:=H
    simp only [go_sem,c238,hf,hd]
    rw [hK]
  rw [if_neg (by simp [h0])] at hK
  have hwh:=(order_whole h0).2
  have hsz:=whole_size hwh
  have hf:=fun B T lw=>WCall_of ((hfi B T lw).2 h0 hwh hsz)
  unfold progV encProg at hf hvc ⊢
  unfold faultV at hf ⊢
  simp only [dcells_cons,dcells_nil] at hf hvc ⊢
  simp only [fObjs,z3,cellsP_eq] at hf
  refine calls_of2 rfl f238 ?_
  obtain ⟨B,T,lw⟩:=H
  simp only [go_sem,c238,hf,hvc,bnd,intOf,List.length_map]
  refine loop_I (S1I p B T) (varsS p).length ⟨0,Nat.zero_le _,rfl,rfl,rfl⟩ ?_
  clear hf hvc
  rintro k e H ⟨i,hi,rfl,rfl,rfl⟩
  simp only [go_sem,c238l0,sObjs,z3]
  refine WG_intro (fun h=>?_) fun h=>?_
  · have hlt:i < (varsS p).length:=by simpa using h
    obtain ⟨v,hv0⟩:=at_of_lt hlt
    have e2:((varsS p).map encVar)[i]? = some (encVar v):=by simp [hv0]
    simp only [go_sem,h,e2,encVar]
    rw [wrap64 (by omega) (by omega)]
    exact ⟨_,by omega,i + 1,by omega,rfl,rfl,by simp [clkM,clkN,hv0,sObjs,z3,cellsP]⟩
  have hlt:i = (varsS p).length:=by have:=of_decide_eq_false h;omega
  subst hlt
  simp only [go_sem,h,List.length_map]
  clear h hi
  refine loop_I (S2I p B T) p.outs.length ⟨0,Nat.zero_le _,rfl,rfl,rfl⟩ ?_
  rintro k e H ⟨i,hi,rfl,rfl,rfl⟩
  simp only [go_sem,c238l1,sObjs,z3]
  refine WG_intro (fun h=>?_) fun h=>?_
  · have hlt:i < p.outs.length:=by simpa using h
    obtain ⟨v,hv0⟩:=at_of_lt hlt
    have e2:(p.outs.map encVar)[i]? = some (encVar v):=by simp [hv0]
    simp only [go_sem,h,e2,encVar]
    rw [wrap64 (by omega) (by omega)]
    exact ⟨_,by omega,i + 1,by omega,rfl,rfl,by simp [outM,outN,hv0,sObjs,z3,cellsP]⟩
  have hlt:i = p.outs.length:=by have:=of_decide_eq_false h;omega
  subst hlt
  simp only [go_sem,h,List.length_map]
  clear h hi
  refine loop_I (S3I p B T) p.eqs.length ⟨0,Nat.zero_le _,rfl,rfl,rfl,rfl⟩ ?_
  rintro k e H ⟨i,hi,rfl,hv,rfl,rfl⟩
  simp only [go_sem,c238l2,sObjs,z3]
  refine WG_intro (fun h=>?_) fun h=>?_
  · have hlt:i < p.eqs.length:=by simpa using h
    obtain ⟨q,hq0⟩:=at_of_lt hlt
    have hmem:=List.mem_of_getElem? hq0
    have hqn:eqAtN p.eqs i = q:=by simp [eqAtN,hq0]
    have e2:(p.eqs.map encEq)[i]? = some (encEq q):=by simp [hq0]
    rw [show p.eqs.length - i = (p.eqs.length - (i + 1)) + 1 by omega] at hv
    have hck:=clkAt_get (varsS p) q.name
    have g1:=fun s=>cnt_get (looseS_ints p) s
    have g2:=fun s=>cnt_get (outM_ints p.outs p.outs.length) s
    have hbT:badQ p q = true→startS p = (3,(i:Int),23):=by
      intro hb
      rw [upF_some (r:=(3,(i:Int),23)) (by simp [badA,hqn,hb])] at hv
      rw [hK,hv]
    have hbF:badQ p q = false→upF (badA p) 0 p.eqs.length = upF (badA p) (i + 1) (p.eqs.length - (i + 1)):=by
      intro hb
      rw [upF_none (by simp [badA,hqn,hb])] at hv
      exact hv
    have hwi:IntKind.i64.wrap ((i:Int) + 1) = ((i + 1:Nat):Int):=by rw [wrap64 (by omega) (by omega)];omega
    have hat:∀ X:List Obj,(B ++ (sObjs p (clkM (varsS p) (varsS p).length) (clkN (varsS p) (varsS p).length) (outM p.outs p.outs.length) (outN p.outs p.outs.length) ++ X))[B.length + 5]? = some (mapO kS false (looseS p).1 (looseS p).2):=by
      intro X
      rw [List.getElem?_append_right (by omega),show B.length + 5 - B.length = 5 by omega];rfl
    have hrc:=fun (X:List Obj) T lw=>WCall_of (reach_c q.e (by have:=hsz q hmem;omega) (whole_eq hwh hmem).1 (looseS p).1 (looseS_ints p) (looseS p).2 (B.length + 5) _ T lw (hat X))
    have htc:=fun (X:List Obj) T lw=>WCall_of (torn_c (looseS p).1 (looseS_ints p) (looseS p).2 (B.length + 5) _ q.e (Nat.le_refl _) (by have:=hsz q hmem;omega) (hp6 q hmem).2.1 (whole_eq hwh hmem).1 _ T lw (hat X))
    unfold exV at hrc htc
    simp only [sObjs,z3,cellsP_eq,go_sem] at hrc htc
    have hbq:badQ p q = (tornE (hitE (looseS p).1) q.e || (decide ((clkAt (varsS p) q.name).kind ≠ 0) && decide (0 < cntM (looseS p).1 (clkAt (varsS p) q.name).name) ||
      ((decide (q.delay ≠ 0) && reachE (hitE (looseS p).1) q.e) || (decide (0 < cntM (outM p.outs p.outs.length) q.name) && decide (0 < cntM (looseS p).1 q.name))))):=rfl
    clear hv hK hfi h0 hp6 hat
    generalize badQ p q = bq at *
    simp only [go_sem,h,e2,encEq,hck,g1,g2]
    generalize tornE (hitE (looseS p).1) q.e = b1 at *
    generalize reachE (hitE (looseS p).1) q.e = b2 at *
    generalize (clkAt (varsS p) q.name).kind = k1 at *
    have fin:∀ b:Bool,True:=fun _=>trivial
    repeat' (refine WG_intro ?_ ?_ <;> intro h <;> (try simp only [go_sem,h,hrc,htc,g1,g2,hck,hwi]))
    all_goals first
      | exact ⟨_,by omega,i + 1,by omega,rfl,hbF (by rw [hbq];clear hrc htc g1 g2 hck hbT hbF hbq;(simp_all <;> intros <;> omega)),rfl,rfl⟩
      | (rw [hbT (by rw [hbq];clear hrc htc g1 g2 hck hbT hbF hbq;(simp_all <;> intros <;> omega))])
  have hlt:p.eqs.length - i = 0:=by have:=of_decide_eq_false h;omega
  rw [hlt] at hv
  rw [show upF (badA p) 0 p.eqs.length = none from hv] at hK
  dsimp only at hK
  simp only [go_sem,h]
  rw [hK]
end Am
namespace Am
open Go C
def litV (x:Ex):Int:=if x.kind = 4 then IntKind.i32.wrap (0 - (match x.sub with | []=>0 | y :: _=>y.n)) else x.n
theorem litV_c (x:Ex) (hx:x.kind = 4→x.sub ≠ []) (H:St):CallsA prg 240 [exV x] H (.d (.int .i32 (litV x))) H:=by
  unfold exV
  refine calls_of2 rfl f240 ?_
  obtain ⟨B,T,lw⟩:=H
  simp only [go_sem,c240]
  refine WG_intro (fun t=>?_) fun t=>?_
  · have hk:x.kind = 4:=by simpa using t
    cases hs:x.sub with
    | nil=>exact absurd hs (hx hk)
    | cons y ys=>
      simp only [go_sem,t,hs]
      simp [litV,hk,hs]
  · have hk:x.kind ≠ 4:=by simpa using t
    simp only [go_sem,t]
    simp [litV,hk]
abbrev CM:=Ents Clk × (List Nat × Nat)
def markC (s:CM) (c:Clk):CM:=(putM s.1 c [.int .i64 1],putT s.1 c s.2)
mutual
def arrE:Ex→Clk→CM→CM
  | .mk k _ nm l,c,s=>if k = 7 then arrL l c (markC s c) else if k = 8 ∨ k = 9 then arrL l clk0 s else if k = 10 then arr2 l ⟨1,nm⟩ ⟨2,nm⟩ s else arrL l c s
def arrL:List Ex→Clk→CM→CM
  | [],_,s=>s
  | x :: xs,c,s=>arrL xs c (arrE x c s)
def arr2:List Ex→Clk→Clk→CM→CM
  | [],_,_,s=>s
  | x :: xs,a,b,s=>arr1 xs b (arrE x a s)
def arr1:List Ex→Clk→CM→CM
  | [],_,s=>s
  | x :: _,b,s=>arrE x b s
end
theorem arrE_eq (x:Ex) (c:Clk) (s:CM):arrE x c s = if x.kind = 7 then arrL x.sub c (markC s c) else if x.kind = 8 ∨ x.kind = 9 then arrL x.sub clk0 s else if x.kind = 10 then arr2 x.sub ⟨1,x.name⟩ ⟨2,x.name⟩ s else arrL x.sub c s:=by cases x;rw [arrE];rfl
theorem arrL_nil (c:Clk) (s:CM):arrL [] c s = s:=by rw [arrL]
theorem arrL_cons (x:Ex) (xs:List Ex) (c:Clk) (s:CM):arrL (x :: xs) c s = arrL xs c (arrE x c s):=by rw [arrL]
theorem arr2_two (x y:Ex) (a b:Clk) (s:CM):arr2 [x,y] a b s = arrE y b (arrE x a s):=by rw [arr2,arr1]
def mc (s:CM):Obj:=mapO kC false s.1 s.2
@[go_sem] theorem mc_eq (s:CM):mc s = mapO kC false s.1 s.2:=(rfl)
def TouchC (f:Nat) (args:List HV) (o:Nat) (s:CM) (r:HV) (s':CM):Prop:=
  ∀ (B:List Obj) (T:List Nat) (lw:Option Nat),o < B.length→CallsA prg f args ⟨B.set o (mc s),T,lw⟩ r ⟨B.set o (mc s'),T,lw⟩
theorem TouchC.wx {f:Nat} {args:List HV} {o:Nat} {s s':CM} {r:HV} (h:TouchC f args o s r s') {B X:List Obj} {T:List Nat} {lw:Option Nat} {K:HV→St→Prop} (ho:o < B.length) :
    WCall prg f args ⟨B.set o (mc s) ++ X,T,lw⟩ K = K r ⟨B.set o (mc s') ++ X,T,lw⟩:=by
  have h1:∀ y,B.set o y ++ X = (B ++ X).set o y:=fun y=>(List.set_append_left _ _ ho).symm
  rw [h1,h1]
  exact WCall_of (h (B ++ X) T lw (by simp;omega)) K
def ArI (x:Ex) (c:Clk) (se:CM) (o:Nat) (c0:List HV) (B:List Obj) (T:List Nat) (k:Nat) (e:Env) (H:St):Prop:=
  ∃ (i:Nat) (s:CM),i ≤ x.sub.length ∧ k = x.sub.length - i ∧ arrL (x.sub.drop i) c s = se ∧
    e = [(0,.map o),(5,.ref (B.length + 1) 0),(39,.d (.sl (encL x.sub))),(40,.d (.int .i64 x.sub.length)),(41,.d (.int .i64 i))] ∧
    H = ⟨B.set o (mc s) ++ [cellsE x,.cells [.d (.int .i64 c.kind),.d (.str c.name)]],T,none⟩
theorem arrows_c (o:Nat):∀ (n:Nat) (x:Ex),x.size ≤ n→n ≤ 1000→x.fit = true→x.formed = true→∀ (c:Clk) (s:CM),TouchC 239 [.map o,exV x,clkV c] o s (.tup []) (arrE x c s):=by
  intro n
  induction n with
  | zero=>intro x h;have:=size_pos x;omega
  | succ n ih=>
    intro x hx hn hf hfo c s B T lw ho
    have hlen:=formed_len hfo
    have hsz:=x.size_eq
    have hae:=arrE_eq x c s
    rw [x.fit_eq] at hf
    simp only [Bool.and_eq_true,decide_eq_true_eq] at hf
    rw [x.formed_eq] at hfo
    simp only [Bool.and_eq_true] at hfo
    refine calls_of2 rfl f239 ?_
    unfold exV clkV
    have loopP:∀ (c1:Clk) (s1:CM),arrL x.sub c1 s1 = arrE x c s→WC prg (.loop [0,5,39,40,41] c239l0) (kBlock 1 [] (WEnd2 [] .shut ⟨B.set o (mc s),T,lw⟩ (.tup []) ⟨B.set o (mc (arrE x c s)),T,lw⟩))
        [(0,.map o),(5,.ref (B.length + 1) 0),(39,.d (.sl (encL x.sub))),(40,.d (.int .i64 x.sub.length)),(41,.d (.int .i64 0))] ⟨B.set o (mc s1) ++ [cellsE x,.cells [.d (.int .i64 c1.kind),.d (.str c1.name)]],T,none⟩:=by
      intro c1 s1 hall
      refine loop_I (ArI x c1 (arrE x c s) o [] B T) x.sub.length ⟨0,s1,Nat.zero_le _,rfl,hall,rfl,rfl⟩ ?_
      rintro k e H ⟨i,s2,hi,rfl,hv,rfl,rfl⟩
      simp only [go_sem,c239l0]
      refine WG_intro (fun h=>?_) fun h=>?_
      · have hlt:i < x.sub.length:=by simpa using h
        obtain ⟨y,hy⟩:=at_of_lt hlt
        have hmem:=List.mem_of_getElem? hy
        have hys:=sizeL_mem hmem
        have e2:(encL x.sub)[i]? = some (encE y):=by rw [encL_at,hy];rfl
        have hrec:=@TouchC.wx _ _ _ _ _ _ (ih y (by omega) (by omega) (fitL_mem hf.2.2 hmem) (formedL_mem hfo.2 hmem) c1 s2)
        unfold exV clkV at hrec
        simp only [go_sem] at hrec
        rw [drop_at hy,arrL_cons] at hv
        have hb1:decide (o < B.length + 2) = true:=by simp;omega
        simp only [go_sem,h,e2,hrec,set_at ho,set_at_app ho,set_app_set ho,ho,hb1]
        rw [wrap64 (by omega) (by omega)]
        exact ⟨_,by omega,i + 1,_,by omega,rfl,hv,rfl,by simp [cellsE,mc]⟩
      · have hlt:x.sub.length ≤ i:=by simpa using h
        rw [List.drop_of_length_le hlt,arrL_nil] at hv
        subst hv
        simp only [go_sem,h,set_at ho,set_at_app ho,set_app_set ho,ho]
    simp only [go_sem,c239,set_at ho,set_at_app ho,set_app_set ho,ho]
    refine WG_intro (fun t=>?_) fun t=>?_
    · have hk:x.kind = 7:=by simpa using t
      rw [if_pos hk] at hae
      have:=loopP c (markC s c) hae.symm
      simp only [mc_eq,markC,cellsE_eq] at this
      simp only [go_sem,t,set_at ho,set_at_app ho,set_app_set ho,ho]
      exact this
    have n7:x.kind ≠ 7:=by simpa using t
    rw [if_neg n7] at hae
    simp only [go_sem,t,set_at ho,set_at_app ho,set_app_set ho,ho]
    refine WG_intro (fun t2=>?_) fun t2=>?_
    · have hk:x.kind = 8:=by simpa using t2
      rw [if_pos (.inl hk)] at hae
      have:=loopP clk0 s hae.symm
      simp only [mc_eq,cellsE_eq] at this
      simp only [go_sem,t2,set_at ho,set_at_app ho,set_app_set ho,ho]
      exact this
    have n8:x.kind ≠ 8:=by simpa using t2
    simp only [go_sem,t2,set_at ho,set_at_app ho,set_app_set ho,ho]
    refine WG_intro (fun t3=>?_) fun t3=>?_
    · have hk:x.kind = 9:=by simpa using t3
      rw [if_pos (.inr hk)] at hae
      have:=loopP clk0 s hae.symm
      simp only [mc_eq,cellsE_eq] at this
      simp only [go_sem,t3,set_at ho,set_at_app ho,set_app_set ho,ho]
      exact this
    have n9:x.kind ≠ 9:=by simpa using t3
    rw [if_neg (by simp [n8,n9])] at hae
    simp only [go_sem,t3,set_at ho,set_at_app ho,set_app_set ho,ho]
    refine WG_intro (fun t4=>?_) fun t4=>?_
    · have hk:x.kind = 10:=by simpa using t4
      rw [if_pos hk] at hae
      rw [hk] at hlen
      have hl2:∃ a b,x.sub = [a,b]:=by
        match hs:x.sub,hlen with
        | [a,b],_=>exact ⟨a,b,rfl⟩
        | [],h=>simp [formS] at h
        | [a],h=>simp [formS] at h
        | _ :: _ :: _ :: _,h=>simp [formS] at h;omega
      obtain ⟨a,b,hs⟩:=hl2
      rw [hs,arr2_two] at hae
      have hsa:a.size ≤ n ∧ b.size ≤ n:=by rw [hsz,hs,sizeL_cons,sizeL_cons] at hx;omega
      have ha:=@TouchC.wx _ _ _ _ _ _ (ih a hsa.1 (by omega) (fitL_mem hf.2.2 (by rw [hs];simp)) (formedL_mem hfo.2 (by rw [hs];simp)) ⟨1,x.name⟩ s)
      have hb:=@TouchC.wx _ _ _ _ _ _ (ih b hsa.2 (by omega) (fitL_mem hf.2.2 (by rw [hs];simp)) (formedL_mem hfo.2 (by rw [hs];simp)) ⟨2,x.name⟩ (arrE a ⟨1,x.name⟩ s))
      unfold exV clkV at ha hb
      simp only [go_sem] at ha hb
      simp only [go_sem,t4,set_at ho,set_at_app ho,set_app_set ho,ho,hs,ha,hb]
      rw [hae]
    have n10:x.kind ≠ 10:=by simpa using t4
    rw [if_neg n10] at hae
    have:=loopP c s hae.symm
    simp only [mc_eq,cellsE_eq] at this
    simp only [go_sem,t4,set_at ho,set_at_app ho,set_app_set ho,ho]
    exact this
end Am
namespace Am
open Go C
structure MCell where
  name:Str
  clk:Clk
  first:Int
def encMC (c:MCell):List D:=[.str c.name,.int .i64 c.clk.kind,.str c.clk.name,.int .i32 c.first]
theorem encMC_all (l:List MCell):(l.map encMC).all (·.length == 4) = true:=by simp [encMC]
def cntC (es:Ents Clk) (c:Clk):Int:=match getM es c with
  | some [.int _ n]=>n
  | _=>0
def intsC (es:Ents Clk):Prop:=∀ p ∈ es,∃ c:Int,p.2 = [.int .i64 c]
theorem intsC_get {es:Ents Clk} (h:intsC es) (s:Clk):(getM es s).getD [.int .i64 0] = [.int .i64 (cntC es s)]:=by
  unfold cntC
  have:getM es s = none ∨ ∃ c:Int,getM es s = some [.int .i64 c]:=by
    unfold getM
    cases hf:es.find? fun p=>decide (s = p.1) with
    | none=>exact .inl rfl
    | some p=>
      obtain ⟨c,hc⟩:=h p (List.mem_of_find?_eq_some hf)
      exact .inr ⟨c,by simp [hc]⟩
  rcases this with h1 | ⟨c,h1⟩ <;> rw [h1] <;> rfl
theorem intsC_put {es:Ents Clk} (h:intsC es) (a:Clk) (c:Int):intsC (putM es a [.int .i64 c]):=by
  induction es with
  | nil=>intro p hp;simp [putM] at hp;subst hp;exact ⟨c,rfl⟩
  | cons q es ih=>
    obtain ⟨b,w⟩:=q
    have h':intsC es:=fun p hp=>h p (by simp [hp])
    simp only [putM]
    split
    · intro p hp
      cases hp with
      | head=>exact ⟨c,rfl⟩
      | tail _ hp=>exact h' p hp
    · intro p hp
      cases hp with
      | head=>exact h _ (by simp)
      | tail _ hp=>exact ih h' p hp
theorem arr_ints:∀ (n:Nat) (x:Ex),x.size ≤ n→∀ (c:Clk) (s:CM),intsC s.1→intsC (arrE x c s).1:=by
  intro n
  induction n with
  | zero=>intro x h;have:=size_pos x;omega
  | succ n ih=>
    intro x hx c s hs
    rw [x.size_eq] at hx
    have key:∀ (l:List Ex) (c:Clk) (s:CM),sizeL l ≤ n→intsC s.1→intsC (arrL l c s).1:=by
      intro l
      induction l with
      | nil=>intro c s _ h;rw [arrL_nil];exact h
      | cons y l ih2=>
        intro c s hl h
        rw [sizeL_cons] at hl
        rw [arrL_cons]
        exact ih2 c _ (by omega) (ih y (by omega) c s h)
    rw [arrE_eq]
    split
    · exact key _ _ _ (by omega) (intsC_put hs _ _)
    split
    · exact key _ _ _ (by omega) hs
    split
    · cases hsub:x.sub with
      | nil=>rw [arr2];exact hs
      | cons a l=>
        rw [hsub,sizeL_cons] at hx
        cases l with
        | nil=>rw [arr2,arr1];exact ih a (by omega) _ _ hs
        | cons b l=>
          rw [sizeL_cons] at hx
          rw [arr2,arr1]
          exact ih b (by omega) _ _ (ih a (by omega) _ _ hs)
    · exact key _ _ _ (by omega) hs
end Am
namespace Am
open Go C
structure LSt where
  cells:List MCell
  fl:CM
def flagCell (c:Clk):MCell:=⟨[],c,0⟩
def flagS (met:Ents Clk) (c:Clk) (s:LSt):LSt:=if 0 < cntC met c then ⟨s.cells ++ [flagCell c],putM s.fl.1 c [.int .i64 (s.cells.length:Int)],putT s.fl.1 c s.fl.2⟩ else s
def lObjs (p:Prog) (ord:List Int) (n:Nat) (ck:Ents Str) (ct:List Nat × Nat) (s:LSt) (T:List Nat) (met:CM):List Obj:=
  [cellsP p,z3,z3,mapO kS true ck ct,mc s.fl,
    .cells [.d (.str p.name),.d (.sl (p.ins.map encVar)),.d (.sl (p.outs.map encVar)),.d (.sl (p.locals.map encVar)),.d (.sl (p.eqs.map encEq)),.map (n + 3),.own (s.cells.map encMC) (tipT T 4 (s.cells.map encMC)),.map (n + 4),.d (.sl (intRows ord))],
    .cells [.ref (n + 5) 0],mc met,.cells [.map (n + 7)]]
def FlagQ (p:Prog) (ord:List Int) (B:List Obj) (T:List Nat) (ck:Ents Str) (ct:List Nat × Nat) (met:CM) (X:List Obj) (lw:Option Nat) (s s':LSt) (r:HV) (H:St):Prop:=
  r = .tup [] ∧ ∃ X' lw',H = ⟨B ++ (lObjs p ord B.length ck ct s' T met ++ (X ++ X')),tipL T (s'.cells.map encMC),lw'⟩ ∧ ((lw' = lw ∧ X' = [] ∧ s'.cells = s.cells) ∨ lw' = minLow lw (some (B.length + 5)))
theorem flag_c (p:Prog) (ord:List Int) (B:List Obj) (T:List Nat) (ck:Ents Str) (ct:List Nat × Nat) (met:CM) (hm:intsC met.1) (X:List Obj) (lw:Option Nat) (s:LSt) (hs:s.cells.length ≤ 100000000) (c:Clk) :
    WCall prg 241 [clkV c,.ref (B.length + 8) 0,.ref (B.length + 6) 0] ⟨B ++ (lObjs p ord B.length ck ct s T met ++ X),tipL T (s.cells.map encMC),lw⟩ (FlagQ p ord B T ck ct met X lw s (flagS met.1 c s)):=by
  refine wcall_of2 rfl f241 ?_
  have hg:=intsC_get hm c
  unfold clkV
  simp only [go_sem,c241,lObjs,z3,hg]
  refine WG_intro (fun t=>?_) fun t=>?_
  · have hc:0 < cntC met.1 c:=by have:=of_decide_eq_true t;omega
    have hap:∀ (O:List Obj) (lw:Option Nat),appendV ⟨O,tipL T (s.cells.map encMC),lw⟩ 4 (.own (s.cells.map encMC) (tipT T 4 (s.cells.map encMC))) [[.str [],.int .i64 c.kind,.str c.name,.int .i32 0]] =
        some (.own ((s.cells ++ [flagCell c]).map encMC) (tipT T 4 ((s.cells ++ [flagCell c]).map encMC)),⟨O,tipL T ((s.cells ++ [flagCell c]).map encMC),lw⟩):=by
      intro O lw
      rw [show (s.cells ++ [flagCell c]).map encMC = s.cells.map encMC ++ [[.str [],.int .i64 c.kind,.str c.name,.int .i32 0]] by simp [encMC,flagCell]]
      exact appendV_own (by simp) (encMC_all _) (by simp [roomN];omega)
    have hlo:HV.loose1 (.own ((s.cells ++ [flagCell c]).map encMC) (tipT T 4 ((s.cells ++ [flagCell c]).map encMC))) = true:=by simp [tipT,HV.loose1]
    simp only [go_sem,t,hap,hlo,List.length_map]
    rw [flagS,if_pos hc]
    exact ⟨rfl,[.cells [.d (.int .i64 c.kind),.d (.str c.name)]],_,by simp [lObjs,z3,mc,cellsP],.inr rfl⟩
  · have hc:¬ 0 < cntC met.1 c:=by have:=of_decide_eq_false t;omega
    simp only [go_sem,t]
    rw [flagS,if_neg hc]
    exact ⟨rfl,[],_,by simp [lObjs,z3,mc,cellsP],.inl ⟨rfl,rfl,rfl⟩⟩
end Am
namespace Am
open Go C
def metM (p:Prog):Nat→CM
  | 0=>([],([],0))
  | j + 1=>arrE (eqAtN p.eqs j).e (clkAt (varsS p) (eqAtN p.eqs j).name) (metM p j)
def cellsM (p:Prog):Nat→List MCell
  | 0=>[]
  | j + 1=>if (eqAtN p.eqs j).delay = 0 then cellsM p j else cellsM p j ++ [⟨(eqAtN p.eqs j).name,clkAt (varsS p) (eqAtN p.eqs j).name,litV (eqAtN p.eqs j).first⟩]
def metS (p:Prog):CM:=metM p p.eqs.length
def flagsF (p:Prog):Nat→LSt
  | 0=>flagS (metS p).1 clk0 ⟨cellsM p p.eqs.length,([],([],0))⟩
  | j + 1=>flagS (metS p).1 ⟨2,((varsS p)[j]?.getD var0).name⟩ (flagS (metS p).1 ⟨1,((varsS p)[j]?.getD var0).name⟩ (flagsF p j))
def lookS (p:Prog):LSt:=flagsF p (varsS p).length
def meanF (p:Prog):Fault:=if startS p ≠ (0,0,0) then startS p else if 16 < (lookS p).cells.length then (4,0,3) else (0,0,0)
def cellsS (p:Prog):List MCell:=if meanF p ≠ (0,0,0) then [] else (lookS p).cells
theorem metM_ints (p:Prog) (j:Nat):intsC (metM p j).1:=by
  induction j with
  | zero=>intro x hx;simp [metM] at hx
  | succ j ih=>rw [metM];exact arr_ints _ _ (Nat.le_refl _) _ _ ih
theorem cellsM_len (p:Prog) (j:Nat):(cellsM p j).length ≤ j:=by
  induction j with
  | zero=>simp [cellsM]
  | succ j ih=>rw [cellsM];split;omega;simp;omega
theorem flagS_len (met:Ents Clk) (c:Clk) (s:LSt):(flagS met c s).cells.length ≤ s.cells.length + 1:=by
  unfold flagS;split <;> simp
theorem flagsF_len (p:Prog) (j:Nat):(flagsF p j).cells.length ≤ p.eqs.length + 1 + 2 * j:=by
  induction j with
  | zero=>have:=flagS_len (metS p).1 clk0 ⟨cellsM p p.eqs.length,([],([],0))⟩;have:=cellsM_len p p.eqs.length;rw [flagsF];dsimp only at *;omega
  | succ j ih=>
    rw [flagsF]
    have h1:=flagS_len (metS p).1 ⟨1,((varsS p)[j]?.getD var0).name⟩ (flagsF p j)
    have h2:=flagS_len (metS p).1 ⟨2,((varsS p)[j]?.getD var0).name⟩ (flagS (metS p).1 ⟨1,((varsS p)[j]?.getD var0).name⟩ (flagsF p j))
    omega
end Am
