/- A part of the proof of BuildAgain: no condition of its own. Whence: AmOrd3, AmMap2, AmOrd4, AmStart1, AmStart2. -/
import Derived.Test.YtgepkelfblhpnaaGreatDoorA29
set_option linter.all false
namespace Am
open Go C
def clkM (vs:List Var):Nat→Ents Str
  | 0=>[]
  | j + 1=>putM (clkM vs j) ((vs[j]?).getD var0).name [.int .i64 ((vs[j]?).getD var0).clk.kind,.str ((vs[j]?).getD var0).clk.name]
def clkN (vs:List Var):Nat→List Nat × Nat
  | 0=>([],0)
  | j + 1=>putT (clkM vs j) ((vs[j]?).getD var0).name (clkN vs j)
def clkAt (vs:List Var) (s:Str):Clk:=match getM (clkM vs vs.length) s with
  | some [.int _ k,.str n]=>⟨k,n⟩
  | _=>clk0
theorem clkM_form (vs:List Var) (s:Str):∀ j,(getM (clkM vs j) s = none ∨ ∃ k n,getM (clkM vs j) s = some [.int .i64 k,.str n]):=by
  intro j
  induction j with
  | zero=>exact .inl rfl
  | succ j ih=>
    rw [clkM,getM_put]
    split
    · exact .inr ⟨_,_,rfl⟩
    · exact ih
theorem clkAt_get (vs:List Var) (s:Str):(getM (clkM vs vs.length) s).getD [.int .i64 0,.str []] = [.int .i64 (clkAt vs s).kind,.str (clkAt vs s).name]:=by
  unfold clkAt
  rcases clkM_form vs s vs.length with h | ⟨k,n,h⟩ <;> rw [h] <;> rfl
def needQ (p:Prog) (q:Eqn):List Str:=needsS q.e ++ (if (clkAt (varsS p) q.name).kind = 0 then [] else [(clkAt (varsS p) q.name).name])
def lsRows (l:List (List Str)):List (List D):=l.map fun x=>[.sl (strRows x)]
theorem needs_len (x:Ex):(needsS x).length ≤ 120:=by
  unfold needsS
  split
  · simp
  · have:=(walk_ok _ x (Nat.le_refl _) w0 0 w0_ok).2
    omega
theorem toDs_set {cs:List HV} {ds:List D} {v:HV} {d:D} (h:toDs cs = some ds) (hv:v.toD = some d) (i:Nat):toDs (cs.set i v) = some (ds.set i d):=by
  induction cs generalizing ds i with
  | nil=>simp [toDs] at h;subst h;simp [toDs]
  | cons c cs ih=>
    simp only [toDs] at h
    cases hc:c.toD with
    | none=>rw [hc] at h;cases h
    | some x=>
      cases hcs:toDs cs with
      | none=>rw [hc,hcs] at h;cases h
      | some xs=>
        rw [hc,hcs] at h
        cases h
        cases i with
        | zero=>simp [toDs,hv,hcs]
        | succ i=>simp [toDs,hc,ih hcs i]
theorem toDs_len {cs:List HV} {ds:List D} (h:toDs cs = some ds):ds.length = cs.length:=by
  induction cs generalizing ds with
  | nil=>simp [toDs] at h;subst h;rfl
  | cons c cs ih=>
    simp only [toDs] at h
    cases hc:c.toD with
    | none=>rw [hc] at h;cases h
    | some x=>
      cases hcs:toDs cs with
      | none=>rw [hc,hcs] at h;cases h
      | some xs=>rw [hc,hcs] at h;cases h;simp [ih hcs]
theorem set_splice {α:Type} {l:List α} {i:Nat} {x:α} (h:i < l.length):l.take i ++ x :: l.drop (i + 1) = l.set i x:=by
  rw [List.set_eq_take_append_cons_drop,if_pos h]
theorem chunks_one (l:List D) (n:Nat) (h:n = l.length):chunks 1 n l = l.map fun d=>[d]:=by
  subst h
  induction l with
  | nil=>rfl
  | cons d l ih=>simp only [List.length_cons,chunks,List.take_succ_cons,List.take_zero,List.drop_succ_cons,List.drop_zero,ih,List.map_cons]
def N1I (p:Prog) (B:List Obj) (T:List Nat) (k:Nat) (e:Env) (H:St):Prop:=
  ∃ i,i ≤ (varsS p).length ∧ k = (varsS p).length - i ∧
    e = [(1,.ref B.length 0),(3,.map (B.length + 1)),(12,.d (.sl ((varsS p).map encVar))),(13,.d (.int .i64 (varsS p).length)),(14,.d (.int .i64 i))] ∧
    H = ⟨B ++ [cellsP p,mapO kS true (clkM (varsS p) i) (clkN (varsS p) i)],T,none⟩
def needD (p:Prog) (i:Nat):List D:=(p.eqs.take i).map (fun q=>D.sl (strRows (needQ p q))) ++ List.replicate (p.eqs.length - i) (D.sl [])
def N2I (p:Prog) (B:List Obj) (T:List Nat) (k:Nat) (e:Env) (H:St):Prop:=
  ∃ (i:Nat) (cs:List HV) (T':List Nat) (X:List Obj) (low:Option Nat),i ≤ p.eqs.length ∧ k = p.eqs.length - i ∧ toDs cs = some (needD p i) ∧ (low = none ∨ low = some (B.length + 2)) ∧ T'.take T.length = T ∧
    e = [(3,.map (B.length + 1)),(6,.row (B.length + 2) 0 p.eqs.length 1),(29,.d (.sl (p.eqs.map encEq))),(30,.d (.int .i64 p.eqs.length)),(31,.d (.int .i64 i))] ∧
    H = ⟨B ++ cellsP p :: mapO kS true (clkM (varsS p) (varsS p).length) (clkN (varsS p) (varsS p).length) :: .cells cs :: X,T',low⟩
theorem needD_set (p:Prog) {i:Nat} {q:Eqn} (h:p.eqs[i]? = some q):(needD p i).set i (D.sl (strRows (needQ p q))) = needD p (i + 1):=by
  have hlt:=lt_of_at h
  unfold needD
  rw [List.take_add_one,h]
  have hl:((p.eqs.take i).map (fun q=>D.sl (strRows (needQ p q)))).length = i:=by simp;omega
  rw [List.set_append_right _ _ (by omega),hl,Nat.sub_self,show p.eqs.length - i = (p.eqs.length - (i + 1)) + 1 by omega,List.replicate_succ]
  simp
theorem tipL_pre {T T':List Nat} (h:T'.take T.length = T) (rows:List (List D)):(tipL T' rows).take T.length = T:=by
  have hl:T.length ≤ T'.length:=by
    have:=congrArg List.length h
    simp at this;omega
  unfold tipL
  split
  · exact h
  · rw [List.take_append_of_le_length hl];exact h
theorem needsP_c (p:Prog) (hp:p.fit) (H:St):CallsA prg 213 [progV p] H (.d (.sl (lsRows (p.eqs.map (needQ p))))) H:=by
  have hvc:=fun H=>WCall_of (vars_c p hp H)
  obtain ⟨hp1,hp2,hp3,hp4,hp5,hp6⟩:=hp
  have hl1:=hp2.1
  have hl2:=hp3.1
  have hl3:=hp4.1
  have hvl:(varsS p).length = p.ins.length + p.outs.length + p.locals.length:=by simp [varsS];omega
  unfold progV encProg at hvc ⊢
  simp only [dcells_cons,dcells_nil] at hvc ⊢
  refine calls_of2 rfl f213 ?_
  obtain ⟨B,T,lw⟩:=H
  simp only [go_sem,c213,hvc,List.length_map,bnd,intOf]
  refine loop_I (N1I p B T) (varsS p).length ⟨0,Nat.zero_le _,rfl,rfl,rfl⟩ ?_
  rintro k e H ⟨i,hi,rfl,rfl,rfl⟩
  simp only [go_sem,c213l0]
  refine WG_intro (fun h=>?_) fun h=>?_
  · have hlt:i < (varsS p).length:=by simpa using h
    obtain ⟨v,hv0⟩:=at_of_lt hlt
    have e2:((varsS p).map encVar)[i]? = some (encVar v):=by simp [hv0]
    simp only [go_sem,h,e2,encVar]
    rw [wrap64 (by omega) (by omega)]
    refine ⟨_,by omega,i + 1,by omega,rfl,rfl,?_⟩
    simp [clkM,clkN,hv0,cellsP]
  have hlt:i = (varsS p).length:=by simp at h;omega
  subst hlt
  clear hvc
  simp only [go_sem,h,List.length_map]
  refine ⟨⟨by omega,by simp [roomN];omega⟩,?_⟩
  by_cases hz:p.eqs = []
  · have hz':((p.eqs.length:Int) = 0) = True:=by simp [hz]
    simp only [go_sem,hz',hz]
    refine loop_I (fun k e H=>k = 0 ∧ e = [(3,.map (B.length + 1)),(6,.own [] (.tok T.length 1)),(29,.d (.sl [])),(30,.d (.int .i64 0)),(31,.d (.int .i64 0))] ∧
      H = ⟨B ++ [.cells [.d (.str p.name),.d (.sl (p.ins.map encVar)),.d (.sl (p.outs.map encVar)),.d (.sl (p.locals.map encVar)),.d (.sl [])],mapO kS true (clkM (varsS p) (varsS p).length) (clkN (varsS p) (varsS p).length)],T ++ [0],none⟩) 0 ⟨rfl,rfl,rfl⟩ ?_
    rintro k e H ⟨rfl,rfl,rfl⟩
    simp only [go_sem,c213l1]
    simp [lsRows]
  have hz':((p.eqs.length:Int) = 0) = False:=by simpa using hz
  have hfl:∀ n:Nat,(List.replicate n [HV.own [] Tip.exact]).flatten = List.replicate n (HV.own [] .exact):=by
    intro n;induction n with
    | zero=>rfl
    | succ n ih=>simp [List.replicate_succ,ih]
  have hd0:∀ n:Nat,toDs (List.replicate n (HV.own [] .exact)) = some (List.replicate n (D.sl [])):=by
    intro n;induction n with
    | zero=>rfl
    | succ n ih=>simp only [List.replicate_succ,toDs,ih,HV.toD]
  simp only [go_sem,hz',hfl,List.length_map]
  refine loop_I (N2I p B T) p.eqs.length ⟨0,_,T,[],none,Nat.zero_le _,rfl,hd0 _,.inl rfl,by simp,rfl,rfl⟩ ?_
  rintro k e H ⟨i,cs,T',X,low,hi,rfl,hcs,hlow,hT,rfl,rfl⟩
  simp only [go_sem,c213l1]
  refine WG_intro (fun h=>?_) fun h=>?_
  · have hlt:i < p.eqs.length:=by simpa using h
    obtain ⟨q,hq0⟩:=at_of_lt hlt
    have hmem:=List.mem_of_getElem? hq0
    obtain ⟨hq1,hq2,hq3⟩:=hp6 q hmem
    have e2:(p.eqs.map encEq)[i]? = some (encEq q):=by simp [hq0]
    have hnc:=fun B T lw=>WCall_of (needs_c q.e hq2 B T lw)
    unfold exV at hnc
    simp only [go_sem] at hnc
    have hcl:=toDs_len hcs
    have hcl2:cs.length = p.eqs.length:=by rw [← hcl];simp [needD];omega
    have hsp:∀ v,List.take i cs ++ v :: List.drop (i + 1) cs = cs.set i v:=fun v=>set_splice (by omega)
    have hsp2:∀ u v,List.take i (cs.set i u) ++ v :: List.drop (i + 1) (cs.set i u) = cs.set i v:=fun u v=>by rw [set_splice (by simp;omega),List.set_set]
    obtain ⟨L1,hL1,hnl⟩:∃ L1,(L1 = none ∨ L1 = some (B.length + 2)) ∧ ∀ (O:List Obj) (T:List Nat),St.noteLow ⟨O,T,none⟩ (B.length + 2) (HV.loose1 (.own (strRows (needsS q.e)) (tipT T' 1 (strRows (needsS q.e))))) = ⟨O,T,L1⟩:=by
      cases HV.loose1 (.own (strRows (needsS q.e)) (tipT T' 1 (strRows (needsS q.e)))) with
      | true=>exact ⟨some (B.length + 2),.inr rfl,fun O T=>rfl⟩
      | false=>exact ⟨none,.inl rfl,fun O T=>rfl⟩
    have hck:=clkAt_get (varsS p) q.name
    have hwi:IntKind.i64.wrap ((i:Int) + 1) = ((i + 1:Nat):Int):=by rw [wrap64 (by omega) (by omega)];omega
    simp only [go_sem,h,e2,encEq,hnc,Nat.mul_one,hsp,hnl,hck]
    refine ⟨by omega,by omega,?_⟩
    refine WG_intro (fun h2=>?_) fun h2=>?_
    · have hk:(clkAt (varsS p) q.name).kind ≠ 0:=by simpa using h2
      have hnq:needQ p q = needsS q.e ++ [(clkAt (varsS p) q.name).name]:=by simp [needQ,hk]
      have hi1:((i:Int) < (p.eqs.length:Int)) = True:=by simp;omega
      have hrd:(i + 1 ≤ cs.length) = True:=by simp;omega
      have htk:∀ v,List.take 1 (List.drop i (cs.set i v)) = [v]:=by
        intro v
        rw [List.drop_eq_getElem_cons (by simp;omega)]
        simp
      have hmk:∀ v,mkV false [v] = some v:=fun _=>rfl
      have hnl2:=needs_len q.e
      have hap:∀ (O:List Obj) (lw:Option Nat) (s:Str),appendV ⟨O,tipL T' (strRows (needsS q.e)),lw⟩ 1 (.own (strRows (needsS q.e)) (tipT T' 1 (strRows (needsS q.e)))) [[.str s]] = some (.own (strRows (needsS q.e ++ [s])) (tipT T' 1 (strRows (needsS q.e ++ [s]))),⟨O,tipL T' (strRows (needsS q.e ++ [s])),lw⟩):=by
        intro O lw s
        rw [show strRows (needsS q.e ++ [s]) = strRows (needsS q.e) ++ [[.str s]] by simp [strRows]]
        exact appendV_own (by simp) (by simp [strRows]) (by simp [roomN,strRows];omega)
      have hlo2:HV.loose1 (.own (strRows (needsS q.e ++ [(clkAt (varsS p) q.name).name])) (tipT T' 1 (strRows (needsS q.e ++ [(clkAt (varsS p) q.name).name])))) = true:=by simp [tipT,HV.loose1,strRows]
      have hml:minLow L1 (some (B.length + 2)) = some (B.length + 2):=by rcases hL1 with rfl | rfl <;> simp [minLow]
      have hml2:minLow low (some (B.length + 2)) = some (B.length + 2):=by rcases hlow with rfl | rfl <;> simp [minLow]
      have hb:lowOk (B.length + (X.length + 1 + 1 + 1)) (some (B.length + 2)) = false:=by simp [lowOk]
      simp only [go_sem,h2,hwi,Nat.mul_one,hi1,hrd,htk,hmk,hap,hsp2,hlo2,hml,hml2,hb]
      simp only [← hnq]
      refine ⟨_,?_,i + 1,_,_,_,some (B.length + 2),by omega,rfl,?_,.inr rfl,tipL_pre hT (strRows (needQ p q)),rfl,rfl⟩
      · omega
      · rw [toDs_set hcs rfl,needD_set p hq0]
    · have hk:(clkAt (varsS p) q.name).kind = 0:=by simpa using h2
      have hnq:needQ p q = needsS q.e:=by simp [needQ,hk]
      have hb0:decide (1 < X.length + 1 + 1 + 1) = true:=by simp
      have hb1:decide (2 < X.length + 1 + 1 + 1) = true:=by simp
      rcases hL1 with rfl | rfl
      · simp only [go_sem,h2,hwi,hb0,hb1]
        simp only [← hnq]
        refine ⟨_,?_,i + 1,_,_,_,low,by omega,rfl,?_,hlow,tipL_pre hT (strRows (needQ p q)),rfl,rfl⟩
        · omega
        · rw [toDs_set hcs rfl,needD_set p hq0]
      · have hml2:minLow low (some (B.length + 2)) = some (B.length + 2):=by rcases hlow with rfl | rfl <;> simp [minLow]
        have hb:lowOk (B.length + (X.length + 1 + 1 + 1)) (some (B.length + 2)) = false:=by simp [lowOk]
        simp only [go_sem,h2,hwi,hb,hml2]
        simp only [← hnq]
        refine ⟨_,?_,i + 1,_,_,_,some (B.length + 2),by omega,rfl,?_,.inr rfl,tipL_pre hT (strRows (needQ p q)),rfl,rfl⟩
        · omega
        · rw [toDs_set hcs rfl,needD_set p hq0]
  · have hlt:p.eqs.length - i = 0:=by simp at h;omega
    have hie:i = p.eqs.length:=by omega
    subst hie
    have hlo:lowOk B.length low = true:=by rcases hlow with rfl | rfl <;> simp [lowOk]
    have hcl:=toDs_len hcs
    have hnd:needD p p.eqs.length = p.eqs.map fun q=>D.sl (strRows (needQ p q)):=by simp [needD]
    have hcl2:cs.length = p.eqs.length:=by rw [← hcl,hnd];simp
    have e3:(if p.eqs.length * 1 ≤ cs.length then Option.map (chunks 1 p.eqs.length) (toDs (List.take (p.eqs.length * 1) cs)) else none) = some (lsRows (p.eqs.map (needQ p))):=by
      rw [Nat.mul_one,if_pos (by omega),List.take_of_length_le (by omega),hcs,hnd,Option.map_some,chunks_one _ _ (by simp)]
      simp [lsRows]
    simp only [go_sem,h,e3,hlo,hT]
end Am
namespace Am
open Go C
section
variable {κ:Type} [DecidableEq κ]
def eraM:Ents κ→κ→Ents κ
  | [],_=>[]
  | p :: es,a=>if a = p.1 then es else p :: eraM es a
theorem eraM_keys (es:Ents κ) (a:κ):∀ b,b ∈ keysM (eraM es a)→b ∈ keysM es:=by
  intro b
  induction es with
  | nil=>intro h;exact h
  | cons p es ih=>
    rw [eraM]
    split
    · intro h;simp only [keysM,List.map_cons,List.mem_cons] at h ⊢;exact .inr h
    · intro h
      simp only [keysM,List.map_cons,List.mem_cons] at h ih ⊢
      rcases h with h | h
      · exact .inl h
      · exact .inr (ih h)
theorem eraM_nodup {es:Ents κ} (h:(keysM es).Nodup) (a:κ):(keysM (eraM es a)).Nodup:=by
  induction es with
  | nil=>exact h
  | cons p es ih=>
    rw [eraM]
    simp only [keysM,List.map_cons,List.nodup_cons] at h
    split
    · exact h.2
    · simp only [keysM,List.map_cons,List.nodup_cons]
      exact ⟨fun hb=>h.1 (eraM_keys es a _ hb),ih h.2⟩
theorem getM_none_of {es:Ents κ} {a:κ} (h:a ∉ keysM es):getM es a = none:=by
  unfold getM
  rw [Option.map_eq_none_iff,List.find?_eq_none]
  intro x hx
  simp only [decide_eq_true_eq]
  rintro rfl
  exact h (List.mem_map.2 ⟨x,hx,rfl⟩)
theorem getM_era {es:Ents κ} (h:(keysM es).Nodup) (a b:κ):getM (eraM es a) b = if b = a then none else getM es b:=by
  induction es with
  | nil=>simp [eraM,getM]
  | cons p es ih=>
    obtain ⟨c,w⟩:=p
    rw [eraM]
    simp only [keysM,List.map_cons,List.nodup_cons] at h
    split
    · rename_i hac
      dsimp only at hac
      subst hac
      by_cases hb:b = a
      · subst hb;rw [if_pos rfl];exact getM_none_of h.1
      · rw [if_neg hb];simp [getM,List.find?_cons,hb]
    · rename_i hac
      dsimp only at hac
      have:=ih h.2
      simp only [getM,List.find?_cons] at this ⊢
      by_cases hb:b = c
      · subst hb
        simp [Ne.symm hac]
      · simp only [hb,decide_false];exact this
theorem eraM_len {es:Ents κ} {a:κ} {v:List D} (h:getM es a = some v):(eraM es a).length + 1 = es.length:=by
  induction es with
  | nil=>simp [getM] at h
  | cons p es ih=>
    rw [eraM]
    split
    · simp
    · rename_i hac
      simp only [getM,List.find?_cons,hac,decide_false] at h ih
      simp [ih h]
theorem era_idx (k:KK κ) (es:Ents κ) (a:κ):match es.findIdx? fun p=>decide (a = p.1) with
    | some i=>encM k (eraM es a) = (encM k es).eraseIdx i
    | none=>eraM es a = es:=by
  induction es with
  | nil=>rfl
  | cons p es ih=>
    simp only [List.findIdx?_cons,eraM]
    by_cases h:a = p.1
    · simp [h,encM]
    · simp only [h,decide_false,if_false]
      generalize List.findIdx? (fun p:κ × List D=>decide (a = p.1)) es = q at ih
      cases q with
      | none=>simpa using ih
      | some i=>simpa [encM] using ih
theorem encM_len {κ1:Type} (k:KK κ1) (es:Ents κ1):(encM k es).length = es.length:=by simp [encM]
end
section
variable {κ:Type} [DecidableEq κ]
variable {p:HProg} {e:Env} {H:St}
def eraT (es:Ents κ) (a:κ) (st:List Nat × Nat):List Nat × Nat:=match es.findIdx? fun p=>decide (a = p.1) with
  | some i=>(st.1.eraseIdx i,st.2)
  | none=>st
def kX1 (e:Env) (H:St) (ka:Bool) (ks:List LK) (x:HO) (K:HV→St→Prop) (mv:HV):Prop:=
  WX (evalO e x) fun kv=>WX (stepOp noCall (evalO (env2 mv kv mv)) H (.delete ka ks (.slot 0) (.slot 1))) (kPure K)
def kX2 (H:St) (ka:Bool) (ks:List LK) (K:HV→St→Prop) (mv kv:HV):Prop:=
  WX (stepOp noCall (evalO (env2 mv kv mv)) H (.delete ka ks (.slot 0) (.slot 1))) (kPure K)
@[go_sem high] theorem wop_delete2 (ka:Bool) (ks:List LK) (m x:HO) (K:HV→St→Prop):WOp p e H (.delete ka ks m x) K = WX (evalO e m) (kX1 e H ka ks x K):=by
  show WX (stepOp noCall (evalO e) H (.delete ka ks m x)) _ = _
  unfold kX1
  simp only [stepOp]
  cases evalO e m with
  | none=>simp [WX]
  | some mv=>
    rw [WX_some]
    cases evalO e x with
    | none=>cases mv <;> simp [WX]
    | some kv=>rw [WX_some];rfl
@[go_sem] theorem kX1_eq (ka:Bool) (ks:List LK) (x:HO) (K:HV→St→Prop) (mv:HV):kX1 e H ka ks x K mv = WX (evalO e x) (kX2 H ka ks K mv):=(rfl)
def kX3 (k:KK κ) (H:St) (a:κ) (o:Nat) (K:HV→St→Prop):Option Obj→Prop
  | some (.map ka va es st)=>ka = k.agg ∧ WX (findKey k.ks (k.enc a) es 0) fun r=>match r with
    | some (i,_)=>K undefV (H.setObj o (.map ka va (es.eraseIdx i) (st.1.eraseIdx i,st.2)))
    | none=>K undefV (H.setObj o (.map ka va es st))
  | _=>False
theorem kX2_map (k:KK κ) [hk:KOk k] (a:κ) (kv:HV) (K:HV→St→Prop) (o:Nat) (h1:kv.isAgg = k.agg) (h2:toDs kv.cells = some (k.enc a)) :
    kX2 H k.agg k.ks K (.map o) kv = kX3 k H a o K H.objs[o]?:=by
  unfold kX2 kX3
  simp only [stepOp,env2_0,env2_1,if_true,h1,h2]
  cases h:H.objs[o]? with
  | none=>simp [WX]
  | some ob=>
    cases ob with
    | map ka va es st=>
      simp only [hk.len,and_true]
      by_cases h5:ka = k.agg
      · rw [if_pos h5]
        subst h5
        simp only [true_and]
        cases h6:findKey k.ks (k.enc a) es 0 with
        | none=>simp [WX]
        | some r=>
          rw [WX_some]
          cases r with
          | none=>simp [WX,kPure]
          | some r=>obtain ⟨i,w⟩:=r;simp [WX,kPure]
      · rw [if_neg h5,WX_none]
        simp only [eq_iff_iff,false_iff]
        rintro ⟨h6,_⟩
        exact h5 h6
    | _=>simp [WX]
theorem kX3_map (k:KK κ) [KOk k] (va:Bool) (a:κ) (o:Nat) (K:HV→St→Prop) (es:Ents κ) (st:List Nat × Nat):kX3 k H a o K (some (mapO k va es st)) = K undefV (H.setObj o (mapO k va (eraM es a) (eraT es a st))):=by
  have h1:=find_enc k a es 0
  have h2:=era_idx k es a
  simp only [kX3,mapO,true_and,h1,WX_some]
  unfold eraT
  cases h:es.findIdx? fun p=>decide (a = p.1) with
  | none=>
    rw [h] at h2
    rw [h2];rfl
  | some j=>
    rw [h] at h2
    cases h3:getM es a with
    | none=>rw [(find_none_iff es a).2 h3] at h;cases h
    | some v=>rw [h2];simp
@[go_sem] theorem kX2_str (s:Str) (K:HV→St→Prop) (o:Nat):kX2 H false [.s] K (.map o) (.d (.str s)) = kX3 kS H s o K H.objs[o]?:=kX2_map kS s _ K o rfl rfl
@[go_sem] theorem kX3_str (va:Bool) (a:Str) (o:Nat) (K:HV→St→Prop) (es:Ents Str) (st:List Nat × Nat):kX3 kS H a o K (some (mapO kS va es st)) = K undefV (H.setObj o (mapO kS va (eraM es a) (eraT es a st))):=kX3_map kS va a o K es st
def mapQ:Option Obj→Option (Bool × Bool × List (List D × List D))
  | some (.map ka va es _)=>some (ka,va,es)
  | _=>none
@[go_sem] theorem st_mapQ (o:Nat):H.map? o = mapQ H.objs[o]?:=by
  unfold St.map? mapQ;rfl
@[go_sem] theorem mapQ_mapO {κ1:Type} (k:KK κ1) (va:Bool) (es:Ents κ1) (st:List Nat × Nat):mapQ (some (mapO k va es st)) = some (k.agg,va,encM k es):=(rfl)
end
end Am
namespace Am
open Go C
attribute [go_sem] encM_len
def leftM (eqs:List Eqn):Nat→Ents Str
  | 0=>[]
  | j + 1=>let q:=(eqs[j]?).getD ⟨[],0,ex0,ex0⟩
    if q.delay = 0 then putM (leftM eqs j) q.name [.int .i64 (j:Int)] else leftM eqs j
def leftN (eqs:List Eqn):Nat→List Nat × Nat
  | 0=>([],0)
  | j + 1=>let q:=(eqs[j]?).getD ⟨[],0,ex0,ex0⟩
    if q.delay = 0 then putT (leftM eqs j) q.name (leftN eqs j) else leftN eqs j
def eqAtN (eqs:List Eqn) (i:Nat):Eqn:=(eqs[i]?).getD ⟨[],0,ex0,ex0⟩
def leftI (es:Ents Str) (s:Str):Option Int:=match getM es s with
  | some [.int _ c]=>some c
  | _=>none
def pickI (p:Prog) (es:Ents Str):Nat→Nat→Int→Int × Int
  | _,0,least=>(-1,least)
  | i,m + 1,least=>
    if leftI es (eqAtN p.eqs i).name = some (i:Int) then
      (let l:=if least < 0 then (i:Int) else least
       if readyS es (needQ p (eqAtN p.eqs i)) then ((i:Int),l) else pickI p es (i + 1) m l)
    else pickI p es (i + 1) m least
def orderF (p:Prog):Nat→Ents Str→List Int→List Int × Fault
  | 0,_,out=>(out,0,0,0)
  | n + 1,es,out=>if es.length = 0 then (out,0,0,0) else
    let r:=pickI p es 0 p.eqs.length (-1)
    if r.1 < 0 then ([],3,r.2,22) else orderF p n (eraM es (eqAtN p.eqs r.1.toNat).name) (out ++ [r.1])
def orderS (p:Prog):List Int × Fault:=if clocksS p ≠ (0,0,0) then ([],clocksS p) else orderF p ((leftM p.eqs p.eqs.length).length + 1) (leftM p.eqs p.eqs.length) []
def leftOk (p:Prog) (es:Ents Str):Prop:=(keysM es).Nodup ∧ (∀ s,getM es s = none ∨ ∃ i:Nat,i < p.eqs.length ∧ getM es s = some [.int .i64 (i:Int)]) ∧ es.length ≤ p.eqs.length
theorem putM_len (es:Ents Str) (a:Str) (v:List D):(putM es a v).length ≤ es.length + 1:=by
  induction es with
  | nil=>simp [putM]
  | cons p es ih=>obtain ⟨c,w⟩:=p;rw [putM];split <;> simp <;> omega
theorem leftM_ok (p:Prog):∀ j,j ≤ p.eqs.length→(keysM (leftM p.eqs j)).Nodup ∧ (∀ s,getM (leftM p.eqs j) s = none ∨ ∃ i:Nat,i < p.eqs.length ∧ getM (leftM p.eqs j) s = some [.int .i64 (i:Int)]) ∧ (leftM p.eqs j).length ≤ j:=by
  intro j
  induction j with
  | zero=>intro _;exact ⟨by simp [leftM,keysM],fun s=>.inl rfl,Nat.le_refl _⟩
  | succ j ih=>
    intro hj
    obtain ⟨h1,h2,h3⟩:=ih (by omega)
    simp only [leftM]
    split
    · refine ⟨putM_nodup _ _ _ h1,fun s=>?_,?_⟩
      · rw [getM_put]
        split
        · exact .inr ⟨j,by omega,rfl⟩
        · exact h2 s
      · have:=putM_len (leftM p.eqs j) ((p.eqs[j]?).getD ⟨[],0,ex0,ex0⟩).name [.int .i64 (j:Int)]
        omega
    · exact ⟨h1,h2,by omega⟩
def o3Objs (p:Prog) (es:Ents Str) (st:List Nat × Nat):List Obj:=[cellsP p,.cells [.d (.int .i64 0),.d (.int .i64 0),.d (.int .i64 0)],.cells [.d (.int .i64 0),.d (.int .i64 0),.d (.int .i64 0)],mapO kS false es st]
def O1I (p:Prog) (B:List Obj) (T:List Nat) (k:Nat) (e:Env) (H:St):Prop:=
  ∃ i,i ≤ p.eqs.length ∧ k = p.eqs.length - i ∧
    e = [(1,.ref B.length 0),(3,.ref (B.length + 1) 0),(5,.map (B.length + 3)),(24,.d (.sl (p.eqs.map encEq))),(25,.d (.int .i64 p.eqs.length)),(26,.d (.int .i64 i))] ∧
    H = ⟨B ++ o3Objs p (leftM p.eqs i) (leftN p.eqs i),T,none⟩
def O2I (p:Prog) (B:List Obj) (T:List Nat) (k:Nat) (e:Env) (H:St):Prop:=
  ∃ es st out,leftOk p es ∧ k = es.length ∧ orderS p = orderF p (es.length + 1) es out ∧ out.length + es.length ≤ p.eqs.length ∧
    e = [(1,.ref B.length 0),(3,.ref (B.length + 1) 0),(5,.map (B.length + 3)),(8,.d (.sl (lsRows (p.eqs.map (needQ p))))),(9,.own (intRows out) (tipT T 1 (intRows out)))] ∧
    H = ⟨B ++ o3Objs p es st,tipL T (intRows out),none⟩
def O3I (p:Prog) (es:Ents Str) (st:List Nat × Nat) (out:List Int) (B:List Obj) (T:List Nat) (k:Nat) (e:Env) (H:St):Prop:=
  ∃ (i:Nat) (least:Int),i ≤ p.eqs.length ∧ k = p.eqs.length - i ∧ pickI p es 0 p.eqs.length (-1) = pickI p es i (p.eqs.length - i) least ∧
    e = [(1,.ref B.length 0),(3,.ref (B.length + 1) 0),(5,.map (B.length + 3)),(8,.d (.sl (lsRows (p.eqs.map (needQ p))))),(9,.own (intRows out) (tipT T 1 (intRows out))),(10,.d (.int .i64 (-1))),(11,.d (.int .i64 least)),
      (45,.d (.sl (p.eqs.map encEq))),(46,.d (.int .i64 p.eqs.length)),(47,.d (.int .i64 i))] ∧
    H = ⟨B ++ o3Objs p es st,tipL T (intRows out),none⟩
theorem clocks_whole {p:Prog} (h:clocksS p = (0,0,0)):kindsS p = (0,0,0) ∧ wholeS p = true:=by
  by_cases h1:kindsS p = (0,0,0)
  · exact ⟨h1,kinds_whole h1⟩
  · unfold clocksS at h
    rw [if_pos h1] at h
    exact absurd h h1
theorem order_c (p:Prog) (hp:p.fit) (H:St):CallsA prg 171 [progV p] H (.tup [.d (.sl (intRows (orderS p).1)),faultV (orderS p).2]) H:=by
  have hkc:=fun H=>WCall_of (clocks_c p hp H)
  have hnc:=fun H=>WCall_of (needsP_c p hp H)
  obtain ⟨hp1,hp2,hp3,hp4,hp5,hp6⟩:=hp
  unfold progV encProg at hkc hnc ⊢
  unfold faultV at hkc ⊢
  simp only [dcells_cons,dcells_nil] at hkc hnc ⊢
  have hK:orderS p = orderS p:=rfl
  conv at hK=>rhs;unfold orderS
  refine calls_of2 rfl f171 ?_
  obtain ⟨B,T,lw⟩:=H
  simp only [go_sem,c171,hkc]
  refine WG_intro (fun t1=>?_) fun t1=>?_
  rotate_left
  · have:clocksS p ≠ (0,0,0):=of_decide_eq_false t1
    simp only [go_sem,t1]
    rw [hK,if_pos this];rfl
  have hk0:clocksS p = (0,0,0):=of_decide_eq_true t1
  have hwh:=(clocks_whole hk0).2
  rw [if_neg (by simp [hk0])] at hK
  simp only [go_sem,t1,hk0,List.length_map,bnd,intOf]
  refine loop_I (O1I p B T) p.eqs.length ⟨0,Nat.zero_le _,rfl,rfl,rfl⟩ ?_
  rintro k e H ⟨i,hi,rfl,rfl,rfl⟩
  simp only [go_sem,c171l0,o3Objs]
  refine WG_intro (fun h=>?_) fun h=>?_
  · have hlt:i < p.eqs.length:=by simpa using h
    obtain ⟨q,hq0⟩:=at_of_lt hlt
    have e2:(p.eqs.map encEq)[i]? = some (encEq q):=by simp [hq0]
    have hwi:IntKind.i64.wrap ((i:Int) + 1) = ((i + 1:Nat):Int):=by rw [wrap64 (by omega) (by omega)];omega
    simp only [go_sem,h,e2,encEq]
    refine WG_intro (fun h2=>?_) fun h2=>?_
    · have hd:q.delay = 0:=by simpa using h2
      simp only [go_sem,h2,hwi]
      exact ⟨_,by omega,i + 1,by omega,rfl,rfl,by simp [leftM,leftN,hq0,hd,o3Objs,cellsP]⟩
    · have hd:q.delay ≠ 0:=by simpa using h2
      simp only [go_sem,h2,hwi]
      exact ⟨_,by omega,i + 1,by omega,rfl,rfl,by simp [leftM,leftN,hq0,hd,o3Objs,cellsP]⟩
  have hlt:i = p.eqs.length:=by simp at h;omega
  subst hlt
  simp only [go_sem,h,hnc]
  clear hkc hnc h hi
  have hl0:=leftM_ok p p.eqs.length (Nat.le_refl _)
  refine loop_I (O2I p B T) (leftM p.eqs p.eqs.length).length ⟨leftM p.eqs p.eqs.length,leftN p.eqs p.eqs.length,[],hl0,rfl,hK,by simpa using hl0.2.2,rfl,rfl⟩ ?_
  clear hK
  rintro k e H ⟨es,st,out,hlo,rfl,hv,hol,rfl,rfl⟩
  rw [orderF] at hv
  simp only [go_sem,c171l2,o3Objs]
  refine WG_intro (fun h=>?_) fun h=>?_
  rotate_left
  · have hz:es.length = 0:=by have:=of_decide_eq_false h;omega
    rw [if_pos hz] at hv
    simp only [go_sem,h]
    rw [hv]
  have hz:¬ es.length = 0:=by have:=of_decide_eq_true h;omega
  rw [if_neg hz] at hv
  dsimp only at hv
  simp only [go_sem,h,List.length_map]
  refine loop_I (O3I p es st out B T) p.eqs.length ⟨0,-1,Nat.zero_le _,rfl,rfl,rfl,rfl⟩ ?_
  rintro k e H ⟨i,least,hi,rfl,hpk,rfl,rfl⟩
  simp only [go_sem,c171l1,o3Objs]
  refine WG_intro (fun h2=>?_) fun h2=>?_
  · have hlt:i < p.eqs.length:=by simpa using h2
    obtain ⟨q,hq0⟩:=at_of_lt hlt
    have e2:(p.eqs.map encEq)[i]? = some (encEq q):=by simp [hq0]
    have e3:(lsRows (p.eqs.map (needQ p)))[i]? = some [.sl (strRows (needQ p q))]:=by simp [lsRows,hq0]
    have hqn:eqAtN p.eqs i = q:=by simp [eqAtN,hq0]
    rw [show p.eqs.length - i = (p.eqs.length - (i + 1)) + 1 by omega,pickI,hqn] at hpk
    have hwi:IntKind.i64.wrap ((i:Int) + 1) = ((i + 1:Nat):Int):=by rw [wrap64 (by omega) (by omega)];omega
    rcases hlo.2.1 q.name with hg | ⟨c,hc,hg⟩
    · have hli:leftI es q.name = none:=by simp [leftI,hg]
      rw [if_neg (by simp [hli])] at hpk
      simp only [go_sem,h2,e2,encEq,hg,Option.getD_none,Option.isSome_none,hwi]
      exact ⟨_,by omega,i + 1,least,by omega,rfl,hpk,rfl,rfl⟩
    · have hli:leftI es q.name = some (c:Int):=by simp [leftI,hg]
      simp only [go_sem,h2,e2,encEq,hg,Option.getD_some,Option.isSome_some,hwi]
      refine WG_intro (fun h3=>?_) fun h3=>?_
      · have hne:¬ (c:Int) = (i:Int):=by simpa using h3
        rw [if_neg (by rw [hli];simpa using hne)] at hpk
        simp only [go_sem,h3,hwi]
        exact ⟨_,by omega,i + 1,least,by omega,rfl,hpk,rfl,rfl⟩
      have hce:(c:Int) = (i:Int):=by simpa using h3
      rw [if_pos (by rw [hli,hce])] at hpk
      dsimp only at hpk
      have hes:∀ s,∃ c:Int,(getM es s).getD [.int .i64 0] = [.int .i64 c]:=fun s=>by
        rcases hlo.2.1 s with h | ⟨c,_,h⟩
        · exact ⟨0,by rw [h];rfl⟩
        · exact ⟨c,by rw [h];rfl⟩
      have hnl:(needQ p q).length ≤ 1000000:=by
        have:=needs_len q.e
        unfold needQ
        split <;> simp <;> omega
      have hrd:=fun (Y:List Obj) T lw=>WCall_of (ready_c (needQ p q) hnl es st (B.length + 3) hes (B ++ (o3Objs p es st ++ Y)) T lw
        (by unfold o3Objs;rw [List.getElem?_append_right (by omega),show B.length + 3 - B.length = 3 by omega];rfl))
      simp only [o3Objs,cellsP_eq,List.cons_append,List.nil_append] at hrd
      have hln:out.length ≤ 1000000:=by omega
      have hap:∀ (O:List Obj) (lw:Option Nat) (s:Int),appendV ⟨O,tipL T (intRows out),lw⟩ 1 (.own (intRows out) (tipT T 1 (intRows out))) [[.int .i64 s]] = some (.own (intRows (out ++ [s])) (tipT T 1 (intRows (out ++ [s]))),⟨O,tipL T (intRows (out ++ [s])),lw⟩):=by
        intro O lw s
        rw [show intRows (out ++ [s]) = intRows out ++ [[.int .i64 s]] by simp [intRows]]
        exact appendV_own (by simp) (by simp [intRows]) (by simp [roomN,intRows];omega)
      have fin:∀ l,pickI p es 0 p.eqs.length (-1) = ((i:Int),l)→leftOk p (eraM es q.name) ∧ orderS p = orderF p ((eraM es q.name).length + 1) (eraM es q.name) (out ++ [(i:Int)]) ∧ (out ++ [(i:Int)]).length + (eraM es q.name).length ≤ p.eqs.length ∧ (eraM es q.name).length < es.length:=by
        intro l hl
        have hel:=eraM_len hg
        refine ⟨⟨eraM_nodup hlo.1 _,fun s=>?_,by have:=hlo.2.2;omega⟩,?_,by simp;omega,by omega⟩
        · rw [getM_era hlo.1]
          split
          · exact .inl rfl
          · exact hlo.2.1 s
        · rw [hv,hl,if_neg (by simp),hel]
          simp only [Int.toNat_natCast,hqn]
      have hng:decide ((i:Int) < 0) = false:=by simp
      simp only [go_sem,h3]
      refine WG_intro (fun h4=>?_) fun h4=>?_
      · have hl4:least < 0:=of_decide_eq_true h4
        rw [if_pos hl4] at hpk
        simp only [go_sem,h4,e3,hrd]
        refine WG_intro (fun h5=>?_) fun h5=>?_
        · rw [if_pos h5] at hpk
          obtain ⟨f1,f2,f3,f4⟩:=fin _ hpk
          simp only [go_sem,h5,hng,hap,e2,encEq]
          exact ⟨_,f4,eraM es q.name,_,out ++ [(i:Int)],f1,rfl,f2,f3,rfl,rfl⟩
        · rw [if_neg (by simp [h5])] at hpk
          simp only [go_sem,h5,hwi]
          exact ⟨_,by omega,i + 1,_,by omega,rfl,hpk,rfl,rfl⟩
      · have hl4:¬ least < 0:=of_decide_eq_false h4
        rw [if_neg hl4] at hpk
        simp only [go_sem,h4,e3,hrd]
        refine WG_intro (fun h5=>?_) fun h5=>?_
        · rw [if_pos h5] at hpk
          obtain ⟨f1,f2,f3,f4⟩:=fin _ hpk
          simp only [go_sem,h5,hng,hap,e2,encEq]
          exact ⟨_,f4,eraM es q.name,_,out ++ [(i:Int)],f1,rfl,f2,f3,rfl,rfl⟩
        · rw [if_neg (by simp [h5])] at hpk
          simp only [go_sem,h5,hwi]
          exact ⟨_,by omega,i + 1,_,by omega,rfl,hpk,rfl,rfl⟩
  · have hlt:p.eqs.length - i = 0:=by have:=of_decide_eq_false h2;omega
    rw [hlt,pickI] at hpk
    rw [hpk,if_pos (by simp)] at hv
    simp only [go_sem,h2]
    rw [hv];rfl
end Am
namespace Am
open Go C
mutual
def reachE (hit:Str→Bool):Ex→Bool
  | .mk k _ nm l=>hit nm || (if k = 7 then reach1 hit l else anyR hit l)
def anyR (hit:Str→Bool):List Ex→Bool
  | []=>false
  | x :: xs=>reachE hit x || anyR hit xs
def reach1 (hit:Str→Bool):List Ex→Bool
  | []=>false
  | x :: _=>reachE hit x
end
theorem reachE_eq (hit:Str→Bool) (x:Ex):reachE hit x = (hit x.name || (if x.kind = 7 then reach1 hit x.sub else anyR hit x.sub)):=by cases x;rw [reachE];rfl
theorem anyR_nil (hit:Str→Bool):anyR hit [] = false:=by rw [anyR]
theorem anyR_cons (hit:Str→Bool) (x:Ex) (xs:List Ex):anyR hit (x :: xs) = (reachE hit x || anyR hit xs):=by rw [anyR]
theorem reach1_take (hit:Str→Bool) (l:List Ex):anyR hit (l.take 1) = reach1 hit l:=by
  cases l with
  | nil=>rw [reach1];exact anyR_nil hit
  | cons x l=>rw [reach1];simp [anyR_cons,anyR_nil]
theorem sizeL_take (l:List Ex):sizeL (l.take 1) ≤ sizeL l:=by
  cases l with
  | nil=>simp
  | cons x l=>simp [sizeL_cons,sizeL_nil]
theorem reachF_eq (hit:Str→Bool):∀ (n:Nat) (l:List Ex),sizeL l < n→formedL l = true→∃ i,i ≤ sizeL l ∧ reachF hit n (encL l) = some (anyR hit l,i):=by
  intro n
  induction n with
  | zero=>intro l h;omega
  | succ n ih=>
    intro l hl hf
    cases l with
    | nil=>exact ⟨0,by omega,by rw [encL_nil,anyR_nil,reachF]⟩
    | cons x l=>
      rw [sizeL_cons] at hl
      rw [formedL_cons] at hf
      simp only [Bool.and_eq_true] at hf
      have hsx:=x.size_eq
      have hxf:=hf.1
      have hlen:=formed_len hxf
      rw [x.formed_eq] at hxf
      simp only [Bool.and_eq_true] at hxf
      obtain ⟨j,hj,h2⟩:=ih l (by have:=size_pos x;omega) hf.2
      rw [encL_cons,encE_eq,anyR_cons,sizeL_cons,reachE_eq]
      by_cases hk:x.kind = 7
      · have hne:encL x.sub ≠ []:=by
          rw [hk] at hlen
          cases hs:x.sub with
          | nil=>rw [hs] at hlen;simp [formS] at hlen
          | cons a b=>simp [encL_cons]
        have hst:=sizeL_take x.sub
        have hft:formedL (x.sub.take 1) = true:=by
          cases hs:x.sub with
          | nil=>simp [formedL_nil]
          | cons a b=>
            rw [hs,formedL_cons] at hxf
            simp only [Bool.and_eq_true] at hxf
            simp [formedL_cons,formedL_nil,hxf.2.1]
        obtain ⟨i,hi,h1⟩:=ih (x.sub.take 1) (by omega) hft
        refine ⟨i + j + 1,by omega,?_⟩
        have het:(encL x.sub).take 1 = encL (x.sub.take 1):=by rw [encL_map,encL_map,List.map_take]
        simp only [reachF,hk,hne,and_false,if_false,if_true,het,h1,h2,reach1_take]
        simp [Bool.or_assoc]
      · obtain ⟨i,hi,h1⟩:=ih x.sub (by omega) hxf.2
        refine ⟨i + j + 1,by omega,?_⟩
        simp only [reachF,hk,false_and,if_false,h1,h2]
        simp [Bool.or_assoc]
def intsM (es:Ents Str):Prop:=∀ p ∈ es,∃ c:Int,p.2 = [.int .i64 c]
def hitE (es:Ents Str) (s:Str):Bool:=decide (0 < cntM es s)
theorem intsM_get {es:Ents Str} (h:intsM es) (s:Str):getM es s = none ∨ ∃ c:Int,getM es s = some [.int .i64 c]:=by
  unfold getM
  cases hf:es.find? fun p=>decide (s = p.1) with
  | none=>exact .inl rfl
  | some p=>
    obtain ⟨c,hc⟩:=h p (List.mem_of_find?_eq_some hf)
    exact .inr ⟨c,by simp [hc]⟩
theorem hitM_eq {es:Ents Str} (h:intsM es) (s:Str):hitM (encM kS es) s = hitE es s:=by
  obtain ⟨r,h1,h2⟩:=find_get kS es s
  have h1':findKey [.s] [.str s] (encM kS es) 0 = some r:=h1
  unfold hitM hitE cntM
  rw [h1',← h2]
  rcases intsM_get h s with hg | ⟨c,hg⟩
  · rw [hg] at h2
    cases r with
    | none=>simp
    | some r=>simp at h2
  · rw [hg] at h2
    cases r with
    | none=>simp at h2
    | some r=>
      obtain ⟨i,v⟩:=r
      simp only [Option.map_some,Option.some.injEq] at h2
      rw [h2];rfl
theorem reach_c (x:Ex) (hx:x.size ≤ 1000) (hfo:x.formed = true) (es:Ents Str) (hes:intsM es) (st:List Nat × Nat) (o:Nat) (B:List Obj) (T:List Nat) (lw:Option Nat) (ho:B[o]? = some (mapO kS false es st)) :
    CallsA prg 258 [.map o,exV x] ⟨B,T,lw⟩ (.d (.bool (reachE (hitE es) x))) ⟨B,T,lw⟩:=by
  obtain ⟨i,hi,h1⟩:=reachF_eq (hitE es) 2000 [x] (by rw [sizeL_cons,sizeL_nil];omega) (by simp [formedL_cons,formedL_nil,hfo])
  rw [anyR_cons,anyR_nil,Bool.or_false,encL_cons,encL_nil,encE_eq] at h1
  rw [sizeL_cons,sizeL_nil] at hi
  have hall:(encM kS es).all (fun e=>match e with | ([.str _],[.int .i64 _])=>true | _=>false) = true:=by
    rw [List.all_eq_true]
    intro e he
    obtain ⟨p,hp,rfl⟩:=List.mem_map.1 he
    obtain ⟨c,hc⟩:=hes p hp
    simp only [kS,hc]
  have hh:hitM (encM kS es) = hitE es:=funext fun s=>hitM_eq hes s
  have hr:reachX [.map o,exV x] ⟨B,T,lw⟩ = some (.d (.bool (reachE (hitE es) x))):=by
    unfold reachX exV
    simp only [ho,mapO,kS,go_sem]
    have hall':=hall
    simp only [kS] at hall' hh
    refine (if_pos (by exact hall')).trans ?_
    rw [hh,h1]
    simp only
    rw [if_pos (by omega)]
  refine Ev.succ (.always fun m=>?_)
  show callN prg (m + 1) 258 _ _ = _
  simp only [callN]
  show ((reachX [.map o,exV x] ⟨B,T,lw⟩).map (·,_)) = _
  rw [hr];rfl
end Am
namespace Am
open Go C
mutual
def tornE (hit:Str→Bool):Ex→Bool
  | .mk k n nm l=>(decide (k = 10) && reachE hit (.mk k n nm l)) || tornL hit l
def tornL (hit:Str→Bool):List Ex→Bool
  | []=>false
  | x :: xs=>tornE hit x || tornL hit xs
end
theorem tornE_eq (hit:Str→Bool) (x:Ex):tornE hit x = ((decide (x.kind = 10) && reachE hit x) || tornL hit x.sub):=by cases x;rw [tornE];rfl
theorem tornL_nil (hit:Str→Bool):tornL hit [] = false:=by rw [tornL]
theorem tornL_cons (hit:Str→Bool) (x:Ex) (xs:List Ex):tornL hit (x :: xs) = (tornE hit x || tornL hit xs):=by rw [tornL]
def ToI (hit:Str→Bool) (x:Ex) (o:Nat) (B:List Obj) (T:List Nat) (k:Nat) (e:Env) (H:St):Prop:=
  ∃ i,i ≤ x.sub.length ∧ k = x.sub.length - i ∧ tornL hit x.sub = tornL hit (x.sub.drop i) ∧
    e = [(0,.map o),(16,.d (.sl (encL x.sub))),(17,.d (.int .i64 x.sub.length)),(18,.d (.int .i64 i))] ∧ H = ⟨B ++ [cellsE x],T,none⟩
theorem torn_c (es:Ents Str) (hes:intsM es) (st:List Nat × Nat) (o:Nat):∀ (n:Nat) (x:Ex),x.size ≤ n→n ≤ 1000→x.fit = true→x.formed = true→∀ (B:List Obj) (T:List Nat) (lw:Option Nat),B[o]? = some (mapO kS false es st) →
    CallsA prg 259 [.map o,exV x] ⟨B,T,lw⟩ (.d (.bool (tornE (hitE es) x))) ⟨B,T,lw⟩:=by
  intro n
  induction n with
  | zero=>intro x h;have:=size_pos x;omega
  | succ n ih=>
    intro x hx hn hf hfo B T lw ho
    have hol:=lt_of_some ho
    have hbo:decide (o < B.length) = true:=by simpa using hol
    have hap:∀ X:List Obj,(B ++ X)[o]? = some (mapO kS false es st):=fun X=>by rw [List.getElem?_append_left hol];exact ho
    have hsz:=x.size_eq
    have hte:=tornE_eq (hitE es) x
    have hrc:=fun (X:List Obj) T lw=>WCall_of (reach_c x (by omega) hfo es hes st o (B ++ X) T lw (hap X))
    rw [x.fit_eq] at hf
    simp only [Bool.and_eq_true,decide_eq_true_eq] at hf
    rw [x.formed_eq] at hfo
    simp only [Bool.and_eq_true] at hfo
    refine calls_of2 rfl f259 ?_
    unfold exV at hrc ⊢
    simp only [go_sem] at hrc
    have main:∀ b:Bool,b = false→tornE (hitE es) x = tornL (hitE es) x.sub→WC prg (.loop [0,16,17,18] c259l0) (kBlock 0 [] (kSeq prg (.seq (.region false [⟨some 4,.move (.const (.d (.bool false))),none,[]⟩] [4]) .ret) (WEnd2 [.slot 4] .shut ⟨B,T,lw⟩ (.d (.bool (tornE (hitE es) x))) ⟨B,T,lw⟩)))
        [(0,.map o),(16,.d (.sl (encL x.sub))),(17,.d (.int .i64 x.sub.length)),(18,.d (.int .i64 0))] ⟨B ++ [cellsE x],T,none⟩:=by
      rintro b - hall
      refine loop_I (ToI (hitE es) x o B T) x.sub.length ⟨0,Nat.zero_le _,rfl,rfl,rfl,rfl⟩ ?_
      rintro k e H ⟨i,hi,rfl,hv,rfl,rfl⟩
      simp only [go_sem,c259l0]
      refine WG_intro (fun h=>?_) fun h=>?_
      · have hlt:i < x.sub.length:=by simpa using h
        obtain ⟨y,hy⟩:=at_of_lt hlt
        have hmem:=List.mem_of_getElem? hy
        have hys:=sizeL_mem hmem
        have e2:(encL x.sub)[i]? = some (encE y):=by rw [encL_at,hy];rfl
        have hrec:=fun (X:List Obj) T lw=>WCall_of (ih y (by omega) (by omega) (fitL_mem hf.2.2 hmem) (formedL_mem hfo.2 hmem) (B ++ X) T lw (hap X))
        unfold exV at hrec
        simp only [go_sem] at hrec
        rw [drop_at hy,tornL_cons] at hv
        have hb1:decide (o < B.length + 1) = true:=by simp;omega
        simp only [go_sem,h,e2,hrec]
        refine WG_intro (fun h2=>?_) fun h2=>?_
        · simp only [go_sem,h2]
          rw [hall,hv,h2];rfl
        · rw [h2,Bool.false_or] at hv
          simp only [go_sem,h2,hb1]
          rw [wrap64 (by omega) (by omega)]
          exact ⟨_,by omega,i + 1,by omega,rfl,hv,rfl,by simp [cellsE]⟩
      · have hlt:x.sub.length ≤ i:=by simpa using h
        rw [List.drop_of_length_le hlt,tornL_nil] at hv
        simp only [go_sem,h]
        rw [hall,hv]
    simp only [go_sem,c259]
    by_cases hk:x.kind = 10
    · have hk':(x.kind == 10) = true:=by simpa using hk
      simp only [go_sem,hk',hrc]
      refine WG_intro (fun h2=>?_) fun h2=>?_
      · simp only [go_sem,h2]
        rw [hte,h2];simp [hk]
      · simp only [go_sem,h2]
        exact main false rfl (by rw [hte,h2];simp)
    · have hk':(x.kind == 10) = false:=by simpa using hk
      simp only [go_sem,hk']
      exact main false rfl (by rw [hte];simp [hk])
end Am
