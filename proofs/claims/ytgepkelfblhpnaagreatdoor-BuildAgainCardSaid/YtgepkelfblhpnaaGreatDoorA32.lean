/- A part of the proof of BuildAgain: no condition of its own. Whence: AmMean5, AmMean6, AmRt1. -/
import Derived.Test.YtgepkelfblhpnaaGreatDoorA31
import Derived.Test.YtgepkelfblhpnaaGreatDoorA26
set_option linter.all false
namespace Am
open Go C
def LookQ (p:Prog) (B:List Obj) (T:List Nat) (lw:Option Nat) (r:HV) (H:St):Prop:=
  (meanF p ≠ (0,0,0) ∧ r = .tup [.d .nilp,faultV (meanF p)] ∧ H = ⟨B,T,lw⟩) ∨
  (meanF p = (0,0,0) ∧ r = .tup [.ref (B.length + 5) 0,faultV (0,0,0)] ∧ ∃ X lw',(lw' = lw ∨ ∃ a,B.length ≤ a ∧ lw' = minLow lw (some a)) ∧
    H = ⟨B ++ (lObjs p (orderS p).1 B.length (clkM (varsS p) (varsS p).length) (clkN (varsS p) (varsS p).length) (lookS p) T (metS p) ++ X),tipL T ((lookS p).cells.map encMC),lw'⟩)
def m1Objs (p:Prog) (n:Nat) (ck:Ents Str) (ct:List Nat × Nat) (s:LSt) (T:List Nat):List Obj:=
  [cellsP p,z3,z3,mapO kS true ck ct,mc s.fl,
    .cells [.d (.str p.name),.d (.sl (p.ins.map encVar)),.d (.sl (p.outs.map encVar)),.d (.sl (p.locals.map encVar)),.d (.sl (p.eqs.map encEq)),.map (n + 3),.own (s.cells.map encMC) (tipT T 4 (s.cells.map encMC)),.map (n + 4),.d (.sl (intRows (orderS p).1))],
    .cells [.ref (n + 5) 0]]
def M1I (p:Prog) (B:List Obj) (T:List Nat) (k:Nat) (e:Env) (H:St):Prop:=
  ∃ i,i ≤ (varsS p).length ∧ k = (varsS p).length - i ∧
    e = [(1,.ref B.length 0),(3,.ref (B.length + 1) 0),(5,.ref (B.length + 6) 0),(6,.d (.sl ((varsS p).map encVar))),(36,.d (.sl ((varsS p).map encVar))),(37,.d (.int .i64 (varsS p).length)),(38,.d (.int .i64 i))] ∧
    H = ⟨B ++ m1Objs p B.length (clkM (varsS p) i) (clkN (varsS p) i) ⟨[],([],([],0))⟩ T,T,some (B.length + 6)⟩
theorem TouchC.at {f:Nat} {args:List HV} {o:Nat} {s s':CM} {r:HV} (h:TouchC f args o s r s') {O:List Obj} {T:List Nat} {lw:Option Nat} {K:HV→St→Prop} (ho:O[o]? = some (mc s)) :
    WCall prg f args ⟨O,T,lw⟩ K = K r ⟨O.set o (mc s'),T,lw⟩:=by
  have hl:=lt_of_some ho
  have hs:O.set o (mc s) = O:=by
    apply List.ext_getElem?
    intro i
    by_cases hi:o = i
    · subst hi;rw [ho];simp [hl]
    · rw [List.getElem?_set_ne hi]
  have:=WCall_of (h O T lw hl) K
  rw [hs] at this
  exact this
def M2I (p:Prog) (B:List Obj) (T:List Nat) (k:Nat) (e:Env) (H:St):Prop:=
  ∃ (i a:Nat) (X:List Obj),i ≤ p.eqs.length ∧ k = p.eqs.length - i ∧ B.length + 5 ≤ a ∧ a ≤ B.length + 6 ∧
    e = [(3,.ref (B.length + 1) 0),(5,.ref (B.length + 6) 0),(6,.d (.sl ((varsS p).map encVar))),(9,.ref (B.length + 8) 0),(53,.d (.sl (p.eqs.map encEq))),(54,.d (.int .i64 p.eqs.length)),(55,.d (.int .i64 i))] ∧
    H = ⟨B ++ (lObjs p (orderS p).1 B.length (clkM (varsS p) (varsS p).length) (clkN (varsS p) (varsS p).length) ⟨cellsM p i,([],([],0))⟩ T (metM p i) ++ X),tipL T ((cellsM p i).map encMC),some a⟩
def M3I (p:Prog) (B:List Obj) (T:List Nat) (k:Nat) (e:Env) (H:St):Prop:=
  ∃ (i a:Nat) (X:List Obj),i ≤ (varsS p).length ∧ k = (varsS p).length - i ∧ B.length + 5 ≤ a ∧ a ≤ B.length + 6 ∧
    e = [(3,.ref (B.length + 1) 0),(5,.ref (B.length + 6) 0),(12,.fn 241 [] [.ref (B.length + 8) 0,.ref (B.length + 6) 0]),(100,.d (.sl ((varsS p).map encVar))),(101,.d (.int .i64 (varsS p).length)),(102,.d (.int .i64 i))] ∧
    H = ⟨B ++ (lObjs p (orderS p).1 B.length (clkM (varsS p) (varsS p).length) (clkN (varsS p) (varsS p).length) (flagsF p i) T (metS p) ++ X),tipL T ((flagsF p i).cells.map encMC),some a⟩
def vo (v:Var):Obj:=.cells [.d (.str v.name),.d (.int .i64 v.ty),.d (.int .i64 v.clk.kind),.d (.str v.clk.name)]
theorem eqs_ok {p:Prog} (h:wholeS p = true) {q:Eqn} (hq:q ∈ p.eqs):eqOkS q = true:=by
  simp only [wholeS,Bool.and_eq_true] at h
  exact List.all_eq_true.1 h.2.2.2.2 q hq
theorem first_sub {q:Eqn} (h:eqOkS q = true) (hd:q.delay ≠ 0):q.first.kind = 4→q.first.sub ≠ []:=by
  simp only [eqOkS,Bool.and_eq_true,decide_eq_true_eq] at h
  obtain ⟨_,_,h⟩:=h
  intro hk
  split at h
  · simp only [literalS,Bool.and_eq_true,decide_eq_true_eq] at h
    have hl:=formed_len (right_formed h.1)
    intro h0
    rw [h0,hk] at hl
    simp [formS] at hl
  · split at h
    · rw [sameE_eq] at h
      simp only [Bool.and_eq_true,beq_iff_eq] at h
      rw [hk] at h
      exact absurd h.1 (by decide)
    · cases h
theorem look_c (p:Prog) (hp:p.fit) (B:List Obj) (T:List Nat) (lw:Option Nat):WCall prg 208 [progV p] ⟨B,T,lw⟩ (LookQ p B T lw):=by
  have hsc:=fun H=>WCall_of (start_c p hp H)
  have hoc:=fun H=>WCall_of (order_c p hp H)
  have hvc:=fun H=>WCall_of (vars_c p hp H)
  obtain ⟨hp1,hp2,hp3,hp4,hp5,hp6⟩:=hp
  unfold progV encProg at hsc hoc hvc ⊢
  unfold faultV at hsc hoc
  simp only [dcells_cons,dcells_nil] at hsc hoc hvc ⊢
  refine wcall_of2 rfl f208 ?_
  simp only [go_sem,c208,hsc]
  refine WG_intro (fun t=>?_) fun t=>?_
  rotate_left
  · have h0:startS p ≠ (0,0,0):=of_decide_eq_false t
    simp only [go_sem,t]
    have hm:meanF p = startS p:=by unfold meanF;rw [if_pos h0]
    exact .inl ⟨by rw [hm];exact h0,by rw [hm];rfl,rfl⟩
  have h0:startS p = (0,0,0):=of_decide_eq_true t
  have ho0:(orderS p).2 = (0,0,0):=by
    by_cases h1:(orderS p).2 = (0,0,0)
    · exact h1
    · unfold startS at h0;rw [if_pos h1] at h0;exact absurd h0 h1
  have hwh:=(order_whole ho0).2
  have hsz:=whole_size hwh
  have hl1:=hp2.1
  have hl2:=hp3.1
  have hl3:=hp4.1
  have hvl:(varsS p).length = p.ins.length + p.outs.length + p.locals.length:=by simp [varsS];omega
  simp only [go_sem,t,h0,bnd,intOf,hoc,hvc,List.length_map]
  refine loop_I (M1I p B T) (varsS p).length ⟨0,Nat.zero_le _,rfl,rfl,rfl⟩ ?_
  clear hoc hvc hsc
  rintro k e H ⟨i,hi,rfl,rfl,rfl⟩
  simp only [go_sem,c208l0,m1Objs,z3,List.map_nil,tip_nil]
  refine WG_intro (fun h=>?_) fun h=>?_
  · have hlt:i < (varsS p).length:=by simpa using h
    obtain ⟨v,hv0⟩:=at_of_lt hlt
    have e2:((varsS p).map encVar)[i]? = some (encVar v):=by simp [hv0]
    simp only [go_sem,h,e2,encVar]
    rw [wrap64 (by omega) (by omega)]
    exact ⟨_,by omega,i + 1,by omega,rfl,rfl,by simp [clkM,clkN,hv0,m1Objs,z3,cellsP,mc,tipT]⟩
  have hlt:i = (varsS p).length:=by have:=of_decide_eq_false h;omega
  subst hlt
  simp only [go_sem,h,List.length_map,bnd,intOf]
  clear h hi
  refine loop_I (M2I p B T) p.eqs.length ⟨0,B.length + 6,[],Nat.zero_le _,rfl,by omega,by omega,rfl,?_⟩ ?_
  · simp [lObjs,z3,cellsP,mc,tipT,tipL,cellsM,metM,minLow]
  rintro k e H ⟨i,a,X,hi,rfl,ha,ha2,rfl,rfl⟩
  simp only [go_sem,c208l1,lObjs,z3]
  refine WG_intro (fun h=>?_) fun h=>?_
  · have hlt:i < p.eqs.length:=by simpa using h
    obtain ⟨q,hq0⟩:=at_of_lt hlt
    have hmem:=List.mem_of_getElem? hq0
    have hqn:eqAtN p.eqs i = q:=by simp [eqAtN,hq0]
    have e2:(p.eqs.map encEq)[i]? = some (encEq q):=by simp [hq0]
    obtain ⟨hq1,hq2,hq3⟩:=hp6 q hmem
    have hqf:=whole_eq hwh hmem
    have hck:=clkAt_get (varsS p) q.name
    have har:=fun (Y:List Obj) T' lw=>@TouchC.at _ _ _ _ _ _ (arrows_c (B.length + 7) _ q.e (Nat.le_refl _) (by have:=hsz q hmem;omega) hq2 hqf.1 (clkAt (varsS p) q.name) (metM p i))
      (B ++ (lObjs p (orderS p).1 B.length (clkM (varsS p) (varsS p).length) (clkN (varsS p) (varsS p).length) ⟨cellsM p i,([],([],0))⟩ T (metM p i) ++ Y)) T' lw
    unfold exV clkV at har
    simp only [lObjs,z3,cellsP_eq,mc_eq,go_sem] at har
    simp only [go_sem,h,e2,encEq,hck,har]
    have hwi:IntKind.i64.wrap ((i:Int) + 1) = ((i + 1:Nat):Int):=by rw [wrap64 (by omega) (by omega)];omega
    refine WG_intro (fun h2=>?_) fun h2=>?_
    · have hd:q.delay ≠ 0:=by simpa using h2
      have hlv:=first_sub (eqs_ok hwh hmem) hd
      have hlc:=fun H=>WCall_of (litV_c q.first hlv H)
      unfold exV at hlc
      simp only [go_sem] at hlc
      have hcl:=cellsM_len p i
      have hap:∀ (O:List Obj) (lw:Option Nat),appendV ⟨O,tipL T ((cellsM p i).map encMC),lw⟩ 4 (.own ((cellsM p i).map encMC) (tipT T 4 ((cellsM p i).map encMC))) [[.str q.name,.int .i64 (clkAt (varsS p) q.name).kind,.str (clkAt (varsS p) q.name).name,.int .i32 (litV q.first)]] =
          some (.own ((cellsM p (i + 1)).map encMC) (tipT T 4 ((cellsM p (i + 1)).map encMC)),⟨O,tipL T ((cellsM p (i + 1)).map encMC),lw⟩):=by
        intro O lw
        rw [show (cellsM p (i + 1)).map encMC = (cellsM p i).map encMC ++ [[.str q.name,.int .i64 (clkAt (varsS p) q.name).kind,.str (clkAt (varsS p) q.name).name,.int .i32 (litV q.first)]] by
          rw [cellsM,hqn,if_neg hd];simp [encMC]]
        exact appendV_own (by simp) (encMC_all _) (by simp [roomN];omega)
      have hlo:HV.loose1 (.own ((cellsM p (i + 1)).map encMC) (tipT T 4 ((cellsM p (i + 1)).map encMC))) = true:=by
        have:(cellsM p (i + 1)).map encMC ≠ []:=by rw [cellsM,hqn,if_neg hd];simp
        simp [tipT,this,HV.loose1]
      have n1:decide (B.length + (X.length + 1 + 1 + 1 + 1 + 1 + 1 + 1 + 1 + 1) ≤ B.length + 5) = false:=decide_eq_false (by omega)
      simp only [go_sem,h2,hlc,hap,hwi,hck,hlo,n1]
      refine ⟨_,by omega,i + 1,B.length + 5,X ++ [.cells [.d (.str q.name),.d (.int .i64 q.delay),.d (.int .i64 q.first.kind),.d (.int .i32 q.first.n),.d (.str q.first.name),.d (.sl (encL q.first.sub)),.d (.int .i64 q.e.kind),.d (.int .i32 q.e.n),.d (.str q.e.name),.d (.sl (encL q.e.sub))]],by omega,rfl,by omega,by omega,rfl,?_⟩
      simp [lObjs,z3,cellsP,mc,metM,hqn,minLow,ha]
    · have hd:q.delay = 0:=by simpa using h2
      have d1:decide (1 < X.length + 1 + 1 + 1 + 1 + 1 + 1 + 1 + 1 + 1) = true:=decide_eq_true (by omega)
      have d6:decide (6 < X.length + 1 + 1 + 1 + 1 + 1 + 1 + 1 + 1 + 1) = true:=decide_eq_true (by omega)
      have d8:decide (8 < X.length + 1 + 1 + 1 + 1 + 1 + 1 + 1 + 1 + 1) = true:=decide_eq_true (by omega)
      simp only [go_sem,h2,hwi,d1,d6,d8]
      refine ⟨_,by omega,i + 1,a,X,by omega,rfl,ha,ha2,rfl,?_⟩
      simp [lObjs,z3,cellsP,mc,metM,hqn,cellsM,hd]
  have hlt:i = p.eqs.length:=by have:=of_decide_eq_false h;omega
  subst hlt
  have hmi:=metM_ints p p.eqs.length
  simp only [go_sem,h]
  refine WCall.mono ?_ (flag_c p (orderS p).1 B T (clkM (varsS p) (varsS p).length) (clkN (varsS p) (varsS p).length) (metS p) hmi X (some a) ⟨cellsM p p.eqs.length,([],([],0))⟩ (by have:=cellsM_len p p.eqs.length;dsimp only;omega) clk0)
  rintro v H ⟨rfl,X1,lw1,rfl,hlw1⟩
  have hap1:∃ a1,B.length + 5 ≤ a1 ∧ a1 ≤ B.length + 6 ∧ lw1 = some a1:=by
    rcases hlw1 with ⟨h1,_,_⟩ | h1
    · exact ⟨a,ha,ha2,h1⟩
    · exact ⟨B.length + 5,by omega,by omega,by rw [h1];simp [minLow,ha]⟩
  obtain ⟨a1,ha1,ha12,rfl⟩:=hap1
  clear hlw1 h
  simp only [go_sem,List.length_map]
  refine loop_I (M3I p B T) (varsS p).length ⟨0,a1,X ++ X1,Nat.zero_le _,rfl,ha1,ha12,rfl,rfl⟩ ?_
  clear ha1 ha12 ha ha2
  rintro k e H ⟨i,a,X,hi,rfl,ha,ha2,rfl,rfl⟩
  simp only [go_sem,c208l2]
  refine WG_intro (fun h=>?_) fun h=>?_
  · have hlt:i < (varsS p).length:=by simpa using h
    obtain ⟨v,hv0⟩:=at_of_lt hlt
    have e2:((varsS p).map encVar)[i]? = some (encVar v):=by simp [hv0]
    have hwi:IntKind.i64.wrap ((i:Int) + 1) = ((i + 1:Nat):Int):=by rw [wrap64 (by omega) (by omega)];omega
    have hfl:=flagsF_len p i
    simp only [go_sem,h,e2,encVar,lObjs,z3]
    refine WCall.mono ?_ (flag_c p (orderS p).1 B T (clkM (varsS p) (varsS p).length) (clkN (varsS p) (varsS p).length) (metS p) hmi (X ++ [vo v]) none (flagsF p i) (by omega) ⟨1,v.name⟩)
    rintro r1 H1 ⟨rfl,X1,lw1,rfl,hlw1⟩
    have hr1:B.length + 9 + X.length - B.length - 9 - X.length = 0:=by omega
    have hl1:=flagS_len (metS p).1 ⟨1,v.name⟩ (flagsF p i)
    simp only [go_sem,lObjs,z3,vo]
    refine WCall.mono ?_ (flag_c p (orderS p).1 B T (clkM (varsS p) (varsS p).length) (clkN (varsS p) (varsS p).length) (metS p) hmi (X ++ vo v :: X1) lw1 (flagS (metS p).1 ⟨1,v.name⟩ (flagsF p i)) (by omega) ⟨2,v.name⟩)
    rintro r2 H2 ⟨rfl,X2,lw2,rfl,hlw2⟩
    have hlow:lw2 = none ∨ lw2 = some (B.length + 5):=by
      rcases hlw1 with ⟨rfl,_,_⟩ | rfl <;> rcases hlw2 with ⟨rfl,_,_⟩ | rfl
      · exact .inl rfl
      · exact .inr rfl
      · exact .inr rfl
      · exact .inr (by simp [minLow])
    have hs:flagS (metS p).1 ⟨2,v.name⟩ (flagS (metS p).1 ⟨1,v.name⟩ (flagsF p i)) = flagsF p (i + 1):=by rw [flagsF,hv0];rfl
    rw [hs]
    clear hlw1 hlw2 hl1 hr1
    have d1:decide (1 < X.length + 1 + 1 + 1 + 1 + 1 + 1 + 1 + 1 + 1) = true:=decide_eq_true (by omega)
    have d6:decide (6 < X.length + 1 + 1 + 1 + 1 + 1 + 1 + 1 + 1 + 1) = true:=decide_eq_true (by omega)
    have d8:decide (8 < X.length + 1 + 1 + 1 + 1 + 1 + 1 + 1 + 1 + 1) = true:=decide_eq_true (by omega)
    have n1:decide (B.length + (X.length + 1 + 1 + 1 + 1 + 1 + 1 + 1 + 1 + 1) ≤ B.length + 5) = false:=decide_eq_false (by omega)
    rcases hlow with rfl | rfl
    · simp only [go_sem,lObjs,z3,vo,hwi,d1,d6,d8]
      refine ⟨_,by omega,i + 1,a,X,by omega,rfl,ha,ha2,rfl,?_⟩
      simp [lObjs,z3,cellsP,mc]
    · simp only [go_sem,lObjs,z3,vo,hwi,d1,d6,d8,n1]
      refine ⟨_,by omega,i + 1,B.length + 5,X ++ (vo v :: X1) ++ X2,by omega,rfl,by omega,by omega,rfl,?_⟩
      simp [lObjs,z3,cellsP,mc,minLow,ha,vo]
  · have hlt:i = (varsS p).length:=by have:=of_decide_eq_false h;omega
    subst hlt
    simp only [go_sem,h,lObjs,z3,List.length_map]
    refine WG_intro (fun h2=>?_) fun h2=>?_
    · have hbig:16 < (lookS p).cells.length:=by have:=of_decide_eq_true h2;unfold lookS;omega
      have hm:meanF p = (4,0,3):=by unfold meanF;rw [if_neg (by simp [h0]),if_pos hbig]
      have hBa:decide (B.length ≤ a) = true:=decide_eq_true (by omega)
      simp only [go_sem,h2,hBa]
      exact .inl ⟨by rw [hm];decide,by rw [hm];rfl,rfl⟩
    · have hbig:¬ 16 < (lookS p).cells.length:=by have:=of_decide_eq_false h2;unfold lookS;omega
      have hm:meanF p = (0,0,0):=by unfold meanF;rw [if_neg (by simp [h0]),if_neg hbig]
      simp only [go_sem,h2]
      exact .inr ⟨hm,rfl,X,_,.inr ⟨a,by omega,rfl⟩,rfl⟩
end Am
namespace Am
open Go C
theorem cells_c (p:Prog) (hp:p.fit) (H:St):CallsA prg 165 [progV p] H (.tup [.d (.sl ((cellsS p).map encMC)),faultV (meanF p)]) H:=by
  have hlc:=fun B T lw=>look_c p hp B T lw
  unfold progV encProg at hlc ⊢
  unfold faultV
  simp only [dcells_cons,dcells_nil] at hlc ⊢
  refine calls_of2 rfl f165 ?_
  obtain ⟨B,T,lw⟩:=H
  simp only [go_sem,c165]
  refine WCall.mono ?_ (hlc _ _ _)
  rintro r H1 (⟨hm,rfl,rfl⟩ | ⟨hm,rfl,X,lw',hlw,rfl⟩)
  · simp only [go_sem,faultV]
    have hc:cellsS p = []:=by unfold cellsS;rw [if_pos hm]
    rw [hc]
    rfl
  · have hc:cellsS p = (lookS p).cells:=by unfold cellsS;rw [if_neg (by simp [hm])]
    rw [hc,hm]
    have hn:∀ k,B.length + 2 + k = B.length + (k + 2):=fun k=>by omega
    have hlow:lw' = none ∨ ∃ a,lw' = some a ∧ decide (B.length ≤ a) = true:=by
      rcases hlw with h | ⟨a,h1,h2⟩
      · exact .inl h
      · exact .inr ⟨a,by rw [h2];rfl,by simp at h1;simp;omega⟩
    rcases hlow with rfl | ⟨a,rfl,h1⟩
    · simp only [go_sem,faultV,lObjs,z3,hn]
    · simp only [go_sem,faultV,lObjs,z3,hn,h1]
theorem appendV_enc {α:Type} (enc:α→List D) {sz:Nat} (he:∀ a,(enc a).length = sz) (l r:List α) (hn:l.length + r.length ≤ roomN) (B:List Obj) (T:List Nat) (lw:Option Nat) :
    appendV ⟨B,tipL T (l.map enc),lw⟩ sz (.own (l.map enc) (tipT T sz (l.map enc))) (r.map enc) = some (.own ((l ++ r).map enc) (tipT T sz ((l ++ r).map enc)),⟨B,tipL T ((l ++ r).map enc),lw⟩):=by
  by_cases hr:r = []
  · subst hr;simp [appendV]
  · rw [List.map_append]
    exact appendV_own (by simp [hr]) (by simp [he]) (by simpa using hn)
def firstS (p:Prog):List Int:=(cellsS p).map (·.first)
def i32Rows (l:List Int):List (List D):=l.map fun x=>[.int .i32 x]
theorem cellsS_len (p:Prog):(cellsS p).length ≤ 16:=by
  unfold cellsS
  split
  · simp
  · rename_i h
    unfold meanF at h
    split at h
    · rename_i h2;exact absurd h (by simpa using h2)
    · split at h
      · exact absurd h (by simp)
      · omega
def FsI (l:List MCell) (B:List Obj) (T:List Nat) (X:List Obj) (k:Nat) (e:Env) (H:St):Prop:=
  ∃ i,i ≤ l.length ∧ k = l.length - i ∧
    e = [(3,.ref (B.length + 1) 0),(5,.ref (B.length + 2) 0),(6,.own (i32Rows ((l.take i).map (·.first))) (tipT T 1 (i32Rows ((l.take i).map (·.first))))),(14,.d (.sl (l.map encMC))),(15,.d (.int .i64 l.length)),(16,.d (.int .i64 i))] ∧
    H = ⟨B ++ X,tipL T (i32Rows ((l.take i).map (·.first))),none⟩
theorem first_c (p:Prog) (hp:p.fit) (H:St):CallsA prg 113 [progV p] H (.tup [.d (.sl (i32Rows (firstS p))),faultV (meanF p)]) H:=by
  have hlc:=fun H=>WCall_of (cells_c p hp H)
  unfold progV encProg at hlc ⊢
  unfold faultV at hlc ⊢
  simp only [dcells_cons,dcells_nil] at hlc ⊢
  refine calls_of2 rfl f113 ?_
  obtain ⟨B,T,lw⟩:=H
  simp only [go_sem,c113,hlc,List.length_map]
  have hcl:=cellsS_len p
  have hfe:∀ l:List MCell,(l.map (·.first)).length = l.length:=fun l=>by simp
  refine loop_I (FsI (cellsS p) B T _) (cellsS p).length ⟨0,Nat.zero_le _,rfl,rfl,rfl⟩ ?_
  rintro k e H ⟨i,hi,rfl,rfl,rfl⟩
  simp only [go_sem,c113l0]
  refine WG_intro (fun h=>?_) fun h=>?_
  · have hlt:i < (cellsS p).length:=by simpa using h
    obtain ⟨c,hc0⟩:=at_of_lt hlt
    have e2:((cellsS p).map encMC)[i]? = some (encMC c):=by simp [hc0]
    have hwi:IntKind.i64.wrap ((i:Int) + 1) = ((i + 1:Nat):Int):=by rw [wrap64 (by omega) (by omega)];omega
    have hap:∀ (O:List Obj) (lw:Option Nat),appendV ⟨O,tipL T (i32Rows (((cellsS p).take i).map (·.first))),lw⟩ 1 (.own (i32Rows (((cellsS p).take i).map (·.first))) (tipT T 1 (i32Rows (((cellsS p).take i).map (·.first))))) [[.int .i32 c.first]] =
        some (.own (i32Rows (((cellsS p).take (i + 1)).map (·.first))) (tipT T 1 (i32Rows (((cellsS p).take (i + 1)).map (·.first)))),⟨O,tipL T (i32Rows (((cellsS p).take (i + 1)).map (·.first))),lw⟩):=by
      intro O lw
      rw [show i32Rows (((cellsS p).take (i + 1)).map (·.first)) = i32Rows (((cellsS p).take i).map (·.first)) ++ [[.int .i32 c.first]] by
        rw [List.take_add_one,hc0];simp [i32Rows]]
      exact appendV_own (by simp) (by rw [List.all_eq_true];intro x hx;simp only [i32Rows,List.mem_map] at hx;obtain ⟨y,_,rfl⟩:=hx;rfl) (by simp [roomN,i32Rows];omega)
    simp only [go_sem,h,e2,encMC,hap,hwi]
    exact ⟨_,by omega,i + 1,by omega,rfl,rfl,rfl⟩
  · have hlt:i = (cellsS p).length:=by have:=of_decide_eq_false h;omega
    subst hlt
    simp only [go_sem,h]
    rfl
end Am
namespace Am
open Go C
def Tok.z (t:Tok):Tok:={ t with at_:=0 }
theorem pass_blank {b:UInt8} (hb:onB blankI b = true) (s:Str):passS (b :: s) = passS s:=by
  have h1:passS (b :: s) = passF (s.length + 2) s:=by
    unfold passS
    rw [List.length_cons]
    show passF (s.length + 1 + 1) (b :: s) = _
    simp only [passF,List.dropWhile_cons,hb,if_true]
  rw [h1]
  exact passF_more _ _ _ (by omega) (by omega)
theorem pass_stay {c:UInt8} {s:Str} (hc:onB blankI c = false) (h:(c :: s).take 2 ≠ [45,45]):passS (c :: s) = c :: s:=by
  unfold passS
  rw [List.length_cons]
  simp only [passF,List.dropWhile_cons,hc,Bool.false_eq_true,if_false]
  rw [if_pos (.inr h)]
def LexTo (s:Str) (ts:List Tok):Prop:=∀ n N,s.length < n→(scanF n N (passS s)).2.1 = 0 ∧ (scanF n N (passS s)).1.map Tok.z = ts
theorem lex_nil:LexTo [] []:=by
  intro n N h
  cases n with
  | zero=>omega
  | succ n=>exact ⟨rfl,rfl⟩
theorem lex_blank {b:UInt8} (hb:onB blankI b = true) {s:Str} {ts:List Tok} (h:LexTo s ts):LexTo (b :: s) ts:=by
  intro n N hn
  rw [pass_blank hb]
  exact h n N (by simp only [List.length_cons] at hn;omega)
theorem lex_tok {w r:Str} {t:Tok} {ts:List Tok} (hw:w ≠ []) (h1:nextS (w ++ r) = (t,0)) (h2:t.text = w) (h3:passS (w ++ r) = w ++ r) (h4:t.z = t) (h:LexTo r ts):LexTo (w ++ r) (t :: ts):=by
  intro n N hn
  cases n with
  | zero=>omega
  | succ n=>
    rw [h3]
    have hne:w ++ r ≠ []:=by simp [hw]
    have hlw:0 < w.length:=List.length_pos_iff.2 hw
    have hr:restS (w ++ r) = passS r:=by
      unfold restS
      rw [h1]
      show passS (List.drop t.text.length (w ++ r)) = _
      rw [h2,List.drop_left]
    obtain ⟨h5,h6⟩:=h n N (by simp only [List.length_append] at hn;omega)
    simp only [scanF,if_neg hne,h1,hr]
    rw [if_neg (by simp),if_neg (by simp [h5])]
    refine ⟨rfl,?_⟩
    simp only [List.map_cons,h6]
    congr 1
def stopB:Str→Prop
  | []=>True
  | c :: _=>onB innerI c = false
theorem head_stop {w r:Str} (h:headS innerI w = w) (hr:stopB r):headS innerI (w ++ r) = w:=by
  unfold headS at h ⊢
  induction w with
  | nil=>
    cases r with
    | nil=>rfl
    | cons c r=>
      have:onB innerI c = false:=hr
      simp [List.takeWhile_cons,this]
  | cons c w ih=>
    simp only [List.takeWhile_cons,List.cons_append] at h ⊢
    split
    · rename_i hc
      rw [if_pos hc] at h
      rw [ih (by simpa using h)]
    · rename_i hc
      rw [if_neg hc] at h
      cases h
theorem dig_inner {c:UInt8} (h:onB innerI c = false):onB digitI c = false:=by
  unfold onB at h ⊢
  unfold innerI at h
  simp only [Bool.or_eq_false_iff] at h
  exact h.2.1
theorem head_dig {w r:Str} (h:w.all (onB digitI) = true) (hr:stopB r):headS digitI (w ++ r) = w:=by
  unfold headS
  induction w with
  | nil=>
    cases r with
    | nil=>rfl
    | cons c r=>simp [List.takeWhile_cons,dig_inner (show onB innerI c = false from hr)]
  | cons c w ih=>
    simp only [List.all_cons,Bool.and_eq_true] at h
    simp only [List.takeWhile_cons,List.cons_append,h.1,if_true]
    rw [ih h.2]
theorem letter_blank {c:UInt8} (h:letterI c.toNat = true):onB blankI c = false ∧ c ≠ 45:=by
  have:(97:Int) ≤ c.toNat:=by unfold letterI at h;simp at h;omega
  constructor
  · unfold onB blankI;simp;omega
  · rintro rfl;revert this;decide
theorem digit_blank {c:UInt8} (h:digitI c.toNat = true):onB blankI c = false ∧ c ≠ 45 ∧ letterI c.toNat = false:=by
  have:(48:Int) ≤ c.toNat ∧ (c.toNat:Int) ≤ 57:=by unfold digitI at h;simp at h;omega
  refine ⟨?_,?_,?_⟩
  · unfold onB blankI;simp;omega
  · rintro rfl;revert this;decide
  · unfold letterI;simp;omega
theorem take2_ne {c:UInt8} (h:c ≠ 45) (s:Str):(c :: s).take 2 ≠ [45,45]:=by
  cases s <;> simp [h]
def tName (w:Str):Tok:=⟨1,w,0,0⟩
def tNum (w:Str) (n:Int):Tok:=⟨2,w,n,0⟩
def tWord (w:Str):Tok:=⟨3,w,0,0⟩
def tMark (w:Str):Tok:=⟨4,w,0,0⟩
theorem lex_name {w r:Str} {ts:List Tok} (hw:nameS w = true) (hr:stopB r) (h:LexTo r ts):LexTo (w ++ r) (tName w :: ts):=by
  cases w with
  | nil=>simp [nameS] at hw
  | cons c cs=>
    simp only [nameS,Bool.and_eq_true,decide_eq_true_eq,Bool.not_eq_true',beq_iff_eq] at hw
    obtain ⟨h1,h2,h3,h4⟩:=hw
    obtain ⟨hb,hm⟩:=letter_blank h2
    refine lex_tok (by simp) ?_ rfl ?_ rfl h
    · have h5:=head_stop h3 hr
      rw [List.cons_append] at h5 ⊢
      simp only [nextS,h2,if_true,h5,h4,Bool.false_eq_true,if_false]
      rw [if_neg (by omega)];rfl
    · rw [List.cons_append];exact pass_stay hb (take2_ne hm _)
theorem lex_word {w r:Str} {ts:List Tok} (hw:wordS w = true) (hh:headS innerI w = w) (hl:letterI (w.headD 0).toNat = true) (hr:stopB r) (h:LexTo r ts):LexTo (w ++ r) (tWord w :: ts):=by
  cases w with
  | nil=>exact absurd hl (by decide)
  | cons c cs=>
    have h2:letterI c.toNat = true:=hl
    obtain ⟨hb,hm⟩:=letter_blank h2
    refine lex_tok (by simp) ?_ rfl ?_ rfl h
    · have h5:=head_stop hh hr
      rw [List.cons_append] at h5 ⊢
      simp only [nextS,h2,if_true,h5,hw]
      rfl
    · rw [List.cons_append];exact pass_stay hb (take2_ne hm _)
theorem lex_num {w r:Str} {n:Int} {ts:List Tok} (hw:w ≠ []) (hd:w.all (onB digitI) = true) (hn:readS w = (n,true)) (hr:stopB r) (h:LexTo r ts):LexTo (w ++ r) (tNum w n :: ts):=by
  cases w with
  | nil=>exact absurd rfl hw
  | cons c cs=>
    have hc:digitI c.toNat = true:=by simp only [List.all_cons,Bool.and_eq_true] at hd;exact hd.1
    obtain ⟨hb,hm,hl⟩:=digit_blank hc
    refine lex_tok (by simp) ?_ rfl ?_ rfl h
    · have h5:=head_dig hd hr
      rw [List.cons_append] at h5 ⊢
      simp only [nextS,hl,hc,if_true,h5,hn,Bool.false_eq_true,if_false]
      rfl
    · rw [List.cons_append];exact pass_stay hb (take2_ne hm _)
def signB (c:UInt8):Bool:=!letterI c.toNat && (!digitI c.toNat && !onB blankI c)
theorem lex_mark1 {c:UInt8} {r:Str} {ts:List Tok} (hs:signB c = true) (hm:markS [c] = true) (h2:∀ d r',r = d :: r'→markS [c,d] = false) (h45:(c :: r).take 2 ≠ [45,45]) (h:LexTo r ts):LexTo (c :: r) (tMark [c] :: ts):=by
  simp only [signB,Bool.and_eq_true,Bool.not_eq_true'] at hs
  obtain ⟨hl,hd,hb⟩:=hs
  show LexTo ([c] ++ r) _
  refine lex_tok (by simp) ?_ rfl (pass_stay hb h45) rfl h
  show nextS (c :: r) = _
  simp only [nextS,hl,hd,Bool.false_eq_true,if_false]
  have hn:¬ (2 ≤ (c :: r).length ∧ markS ((c :: r).take 2) = true):=by
    rintro ⟨h3,h4⟩
    cases r with
    | nil=>simp at h3
    | cons d r=>
      have:=h2 d r rfl
      simp only [List.take_succ_cons,List.take_zero] at h4
      rw [this] at h4;cases h4
  rw [if_neg hn]
  simp only [List.take_succ_cons,List.take_zero,hm,if_true]
  rfl
theorem lex_mark2 {c d:UInt8} {r:Str} {ts:List Tok} (hs:signB c = true) (hm:markS [c,d] = true) (h45:¬ (c = 45 ∧ d = 45)) (h:LexTo r ts):LexTo (c :: d :: r) (tMark [c,d] :: ts):=by
  simp only [signB,Bool.and_eq_true,Bool.not_eq_true'] at hs
  obtain ⟨hl,hd,hb⟩:=hs
  show LexTo ([c,d] ++ r) _
  refine lex_tok (by simp) ?_ rfl (pass_stay hb ?_) rfl h
  · show nextS (c :: d :: r) = _
    simp only [nextS,hl,hd,Bool.false_eq_true,if_false]
    rw [if_pos ⟨by simp,by simpa using hm⟩]
    rfl
  · intro h3
    have h3:[c,d] = ([45,45]:Str):=h3
    simp only [List.cons.injEq,and_true] at h3
    exact h45 h3
theorem mark_open (d:UInt8):markS [40,d] = false:=by simp [markS]
theorem mark_close (d:UInt8):markS [41,d] = false:=by simp [markS]
theorem mark_semi (d:UInt8):markS [59,d] = false:=by simp [markS]
theorem lex_open {r:Str} {ts:List Tok} (h:LexTo r ts):LexTo (40 :: r) (tMark [40] :: ts):=
  lex_mark1 (by decide) (by decide) (fun d _ _=>mark_open d) (take2_ne (by decide) _) h
theorem lex_close {r:Str} {ts:List Tok} (h:LexTo r ts):LexTo (41 :: r) (tMark [41] :: ts):=
  lex_mark1 (by decide) (by decide) (fun d _ _=>mark_close d) (take2_ne (by decide) _) h
theorem lex_semi {r:Str} {ts:List Tok} (h:LexTo r ts):LexTo (59 :: r) (tMark [59] :: ts):=
  lex_mark1 (by decide) (by decide) (fun d _ _=>mark_semi d) (take2_ne (by decide) _) h
theorem lex_sp {s:Str} {ts:List Tok} (h:LexTo s ts):LexTo (32 :: s) ts:=lex_blank (by decide) h
theorem lex_nl {s:Str} {ts:List Tok} (h:LexTo s ts):LexTo (10 :: s) ts:=lex_blank (by decide) h
theorem stop_sp (s:Str):stopB (32 :: s):=by show onB innerI 32 = false;decide
theorem stop_nl (s:Str):stopB (10 :: s):=by show onB innerI 10 = false;decide
theorem stop_close (s:Str):stopB (41 :: s):=by show onB innerI 41 = false;decide
theorem stop_semi (s:Str):stopB (59 :: s):=by show onB innerI 59 = false;decide
theorem decF_acc:∀ (f n:Nat) (acc:Str),decF f n acc = decF f n [] ++ acc
  | 0,_,acc=>by simp [decF]
  | f + 1,n,acc=>by
    simp only [decF]
    split
    · simp
    · rw [decF_acc f _ (_ :: acc),decF_acc f _ [_]];simp
theorem digit_byte {d:Nat} (h:d < 10):(UInt8.ofNat (48 + d)).toNat = 48 + d:=by
  rw [UInt8.toNat_ofNat'];omega
theorem decF_digits:∀ (f n:Nat),n < 10 ^ f→(decF f n []).all (onB digitI) = true
  | 0,_,_=>rfl
  | f + 1,n,h=>by
    simp only [decF]
    have hd:n % 10 < 10:=by omega
    have hb:onB digitI (UInt8.ofNat (48 + n % 10)) = true:=by
      unfold onB digitI
      rw [digit_byte hd];simp;omega
    split
    · simp only [List.all_cons,hb,List.all_nil,Bool.and_self]
    · rw [decF_acc,List.all_append,decF_digits f _ (by rw [Nat.pow_succ] at h;omega)]
      simp only [List.all_cons,hb,List.all_nil,Bool.and_self]
theorem numS_app:∀ (a b:Str) (n:Int),numS (a ++ b) n = (numS a n).bind fun m=>numS b m
  | [],_,_=>rfl
  | c :: a,b,n=>by
    simp only [List.cons_append,numS]
    split
    · rfl
    · exact numS_app a b _
theorem numS_dec:∀ (f n:Nat),0 < f→n < 10 ^ f→numS (decF f n []) 0 = some (n:Int)
  | 0,_,h,_=>by omega
  | f + 1,n,_,h=>by
    simp only [decF]
    have hd:n % 10 < 10:=by omega
    have hb:=digit_byte hd
    split
    · simp only [numS,hb]
      rw [if_neg (by omega)]
      simp;omega
    · rename_i h0
      have hf:0 < f:=by
        cases f with
        | zero=>simp at h;omega
        | succ f=>omega
      rw [decF_acc,numS_app,numS_dec f (n / 10) hf (by rw [Nat.pow_succ] at h;omega)]
      simp only [Option.bind_some,numS,hb]
      rw [if_neg (by omega)]
      simp;omega
theorem decF_head:∀ (f n:Nat),n < 10 ^ f→0 < n→∃ c cs,decF f n [] = c :: cs ∧ c ≠ 48
  | 0,n,h,h0=>by simp at h;omega
  | f + 1,n,h,h0=>by
    simp only [decF]
    split
    · refine ⟨_,_,rfl,?_⟩
      intro h2
      have:=congrArg UInt8.toNat h2
      rw [digit_byte (by omega)] at this
      have h48:(48:UInt8).toNat = 48:=rfl
      omega
    · rename_i h1
      obtain ⟨c,cs,h2,h3⟩:=decF_head f (n / 10) (by rw [Nat.pow_succ] at h;omega) (by omega)
      rw [decF_acc,h2]
      exact ⟨c,_,rfl,h3⟩
theorem digits_ok {a:Int} (h0:0 ≤ a) (h1:a ≤ 2147483647):digitsS a ≠ [] ∧ (digitsS a).all (onB digitI) = true ∧ readS (digitsS a) = (a,true):=by
  have hd:digitsS a = decF 10 a.natAbs []:=by unfold digitsS;rw [if_neg (by omega)];rfl
  rw [hd]
  have hlt:a.natAbs < 10 ^ 10:=by
    have:(10:Nat) ^ 10 = 10000000000:=by decide
    omega
  have hn:=numS_dec 10 a.natAbs (by omega) hlt
  have hne:decF 10 a.natAbs [] ≠ []:=by
    rw [decF]
    split
    · exact List.cons_ne_nil _ _
    · rw [decF_acc];exact fun h=>absurd (List.append_eq_nil_iff.1 h).2 (List.cons_ne_nil _ _)
  refine ⟨hne,decF_digits _ _ hlt,?_⟩
  have hlen:=decF_len 10 a.natAbs []
  rw [List.length_nil] at hlen
  unfold readS
  rw [if_neg,hn]
  · simp only
    rw [if_pos (by omega)]
    congr 1;omega
  · rintro (h | ⟨h2,h3⟩)
    · omega
    · by_cases hz:a.natAbs = 0
      · rw [hz] at h3;exact h3 (by decide)
      · obtain ⟨c,cs,h4,h5⟩:=decF_head 10 a.natAbs hlt (by omega)
        rw [h4] at h2
        simp only [List.head?_cons,Option.some.injEq] at h2
        exact h5 h2
end Am
