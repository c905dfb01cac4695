/- A part of the proof of BuildAgain: no condition of its own. Whence: AmHyb1, AmHyb2. -/
import Derived.Test.YtgepkelfblhpnaaGreatDoorA14
import Derived.Test.YtgepkelfblhpnaaGreatDoorA15
set_option linter.all false
namespace Am
open Go
def pNone:HProg:=⟨fun _=>none,fun _=>none⟩
theorem pNone_ok {P:Program} {gt:Nat→Option (List D)} (n:Nat):CallsOk P gt (callN pNone n):=
  call_ok (fun _ _ h=>by cases h) (fun _ _ h=>by cases h) n
structure Hg where
  P:Program
  gt:Nat→Option (List D)
  N:Nat
  H0:St
  L0:Lay
  w0:World
structure HY (g:Hg) (t:List (Nat × Value)) (q:List (Nat × Nat)) (e:Env) (H:St) (L:Lay) (w:World) (a:Act):Prop where
  S:Sim g.gt H L w
  R:EnvRel e.get L H.tips w a
  N:g.N ≤ a.tmps.size
  D:a.defers = []
  E:Ext g.H0.objs.length g.L0 g.H0.tips g.w0 L H.tips w
  K:Keeps g.H0 H
  T:∀ p ∈ t,a.tmps[p.1]? = some p.2
  O:∀ p ∈ q,p.1 < H.objs.length ∧ L.φ[p.1]? = some (some p.2)
def HK (g:Hg) (t:List (Nat × Value)) (q:List (Nat × Nat)) (K:Act→World→Prop) (e:Env) (H:St):Prop:=∀ L w a,HY g t q e H L w a→K a w
def HCo (g:Hg) (hc:HC) (K:Code→Prop):Prop:=∀ c,cCode g.P g.gt c = some hc.strip→hc.dstOk g.N = true→K c
def HG (g:Hg) (hc:HC) (Q:Exit→Act→World→Prop) (t:List (Nat × Value)) (q:List (Nat × Nat)) (e:Env) (H:St):Prop:=
  HCo g hc fun c=>HK g t q (c.wp g.P Q) e H
def HR (g:Hg) (n:Nat) (hc:HC) (Q:Exit→Act→World→Prop) (t:List (Nat × Value)) (q:List (Nat × Nat)) (e:Env) (H:St):Prop:=
  HCo g hc fun c=>HK g t q (Code.rounds g.P c Q n) e H
def HW (g:Hg) (ops:Array Oper) (Q:Exit→Act→World→Prop) (i m:Nat) (t:List (Nat × Value)) (q:List (Nat × Nat)) (e:Env) (H:St):Prop:=
  HK g t q (wpOps g.P ops Q (List.range' i m)) e H
def qSeq (g:Hg) (r:HC) (Q:Exit→Act→World→Prop):Exit→Act→World→Prop:=Exit.then (fun a w=>HCo g r fun c=>c.wp g.P Q a w) Q
def qRound (g:Hg) (n:Nat) (r:HC) (Q:Exit→Act→World→Prop):Exit→Act→World→Prop:=Exit.then (fun a w=>HCo g r fun c=>Code.rounds g.P c Q n a w) Q
section
variable {g:Hg} {t t':List (Nat × Value)} {q q':List (Nat × Nat)} {e:Env} {H H':St} {L L':Lay} {w w':World} {a:Act} {Q:Exit→Act→World→Prop} {K:Act→World→Prop}
theorem WOp_mono {p:HProg} {e:Env} {H:St} {op:HOp} {K K':HV→St→Prop} (hk:∀ v H,K v H→K' v H) (h:WOp p e H op K):WOp p e H op K':=by
  cases op <;> first
    | (obtain ⟨r,h1,h2⟩:=h;exact ⟨r,h1,hk _ _ h2⟩)
    | (obtain ⟨vs,h1,r,H',h2,h3⟩:=h;exact ⟨vs,h1,r,H',h2,hk _ _ h3⟩)
    | (obtain ⟨g,h0,vs,h1,r,H',h2,h3⟩:=h;exact ⟨g,h0,vs,h1,r,H',h2,hk _ _ h3⟩)
theorem WO_mono {p:HProg} {K K':Env→St→Prop} (hk:∀ e H,K e H→K' e H):∀ {ops:List HOper} {e:Env} {H:St},WO p ops K e H→WO p ops K' e H
  | [],e,H,h=>hk _ _ h
  | o :: os,e,H,h=>by
    simp only [WO] at h ⊢
    split at h
    · rename_i hg
      exact WOp_mono (fun v H h=>WO_mono hk h) h
    · rename_i gd hg
      obtain ⟨t,h1,h2⟩:=h
      refine ⟨t,h1,?_⟩
      cases t with
      | true=>exact WOp_mono (fun v H h=>WO_mono hk h) h2
      | false=>exact WO_mono hk h2
theorem HY.less (h:HY g t q e H L w a) (ht:∀ p ∈ t',p ∈ t) (hq:∀ p ∈ q',p ∈ q):HY g t' q' e H L w a:=
  { h with T:=fun p hp=>h.T p (ht p hp),O:=fun p hp=>h.O p (hq p hp) }
theorem HY.restrict (h:HY g t q e H L w a) (ks:List Nat):HY g t q (e.restrict ks) H L w a:=
  { h with R:=h.R.mono fun _ _ hk=>restrict_get hk }
theorem hk_restrict (ks:List Nat) (h:HK g t q K (e.restrict ks) H):HK g t q K e H:=fun L w a hy=>h L w a (hy.restrict ks)
theorem HY.put (h:HY g t q e H L w a) {d:Option Nat} {u:HV} {v:Value} (e1:Ext H.objs.length L H.tips w L' H'.tips w') (S1:Sim g.gt H' L' w') (V:VRel L' H'.tips w' u v) (k:Keeps H H')
    (hd:∀ x,d = some x→x < g.N) (T:∀ p ∈ t',(a.put d v).tmps[p.1]? = some p.2) (O:∀ p ∈ q',p.1 < H'.objs.length ∧ L'.φ[p.1]? = some (some p.2)):HY g t' q' (e.put d u) H' L' w' (a.put d v) where
  S:=S1
  R:=by
    rw [get_put]
    have e1':=e1
    rw [← h.S.nobj] at e1'
    exact (h.R.move e1'.stays).put V fun x hx=>Nat.lt_of_lt_of_le (hd x hx) h.N
  N:=by rw [put_size];exact h.N
  D:=by rw [put_defers'];exact h.D
  E:=ext_then h.E e1 h.K.objs
  K:=h.K.trans k
  T:=T
  O:=O
theorem put_ne {d:Option Nat} {v x:Value} {k:Nat} (h:d ≠ some k) (hx:a.tmps[k]? = some x):(a.put d v).tmps[k]? = some x:=by
  cases d with
  | none=>exact hx
  | some j=>
    have:j ≠ k:=fun e=>h (by rw [e])
    simp only [Act.put]
    rw [Array.getElem?_setIfInBounds_ne this]
    exact hx
theorem put_eq {d:Nat} {v:Value} (h:d < a.tmps.size):(a.put (some d) v).tmps[d]? = some v:=by simp [Act.put,h]
theorem runOps_hy {call:CallT} (C:CallsOk g.P g.gt call) (CK:CallKeeps call) {ops:Array Oper} {m:Nat}:∀ (seg:List HOper) (i:Nat) (e e':Env) (H H':St) (L:Lay) (w:World) (a:Act),
    (∀ k ho,seg[k]? = some ho→∃ o,OpOk g.P g.gt ops g.N (i + k) ho o)→(∀ ho ∈ seg,∀ p ∈ t,ho.dst ≠ some p.1)→HY g t q e H L w a→runOps call seg e H = some (e',H') →
    HW g ops Q (i + seg.length) m t q e' H'→wpOps g.P ops Q (List.range' i (seg.length + m)) a w
  | [],i,e,e',H,H',L,w,a,_,_,hy,h,hk=>by
    simp only [runOps,Option.some.injEq,Prod.mk.injEq] at h
    obtain ⟨rfl,rfl⟩:=h
    simp only [List.length_nil,Nat.zero_add,Nat.add_zero] at hk ⊢
    exact hk L w a hy
  | ho :: seg,i,e,e',H,H',L,w,a,hok,hdt,hy,h,hk=>by
    obtain ⟨o,ok⟩:=hok 0 ho rfl
    simp only [Nat.add_zero] at ok
    rw [show (ho :: seg).length + m = (seg.length + m) + 1 by simp;omega,List.range'_succ]
    simp only [runOps] at h
    cases hst:stepOper call e H ho with
    | none=>rw [hst] at h;cases h
    | some r=>
      obtain ⟨e1,H1⟩:=r
      rw [hst] at h
      simp only at h
      have ih:=fun (L1:Lay) (w1:World) (a1:Act) (hy1:HY g t q e1 H1 L1 w1 a1)=>runOps_hy C CK seg (i + 1) e1 e' H1 H' L1 w1 a1 (fun k ho hk=>by
        have:=hok (k + 1) ho (by simpa using hk)
        rwa [show i + 1 + k = i + (k + 1) by omega]) (fun x hx=>hdt x (by simp [hx])) hy1 h (by rw [show i + 1 + seg.length = i + (ho :: seg).length by simp;omega];exact hk)
      have K1:=oper_keeps CK hst
      have hne:∀ p ∈ t,o.dst ≠ some p.1:=fun p hp=>by rw [← ok.dst];exact hdt ho (by simp) p hp
      simp only [wpOps,ok.at_]
      unfold stepOper at hst
      split at hst
      · rename_i hw
        rw [wanted_sound ok.guard hy.R (fun _=>rfl) hw]
        rw [if_pos rfl]
        left
        cases hop:stepOp call (evalO e) H ho.op with
        | none=>rw [hop] at hst;cases hst
        | some r=>
          obtain ⟨v,H2⟩:=r
          rw [hop] at hst
          simp only [Option.some.injEq,Prod.mk.injEq] at hst
          obtain ⟨rfl,rfl⟩:=hst
          refine op_wp C ok.op hy.S (opnds_of hy.S.glob hy.R) hop fun v' w' L' e1 S1 V1=>?_
          have hdd:=ok.dst
          rw [hdd] at ih
          refine ih L' w' _ (hy.put e1 S1 V1 K1 ok.lt (fun p hp=>put_ne (hne p hp) (hy.T p hp)) fun p hp=>?_)
          obtain ⟨o1,o2⟩:=hy.O p hp
          exact ⟨Nat.lt_of_lt_of_le o1 K1.objs,by rw [e1.φ _ o1];exact o2⟩
      · rename_i hw
        rw [wanted_sound ok.guard hy.R (fun _=>rfl) hw]
        simp only [Option.some.injEq,Prod.mk.injEq] at hst
        obtain ⟨rfl,rfl⟩:=hst
        simp only [Bool.false_eq_true,if_false]
        have hdd:=ok.dst
        rw [hdd] at ih
        exact ih L w _ (hy.put (.refl _ _ _ _) hy.S undef_rel K1 ok.lt (fun p hp=>put_ne (hne p hp) (hy.T p hp)) hy.O)
      · cases hst
theorem hw_am {ops:Array Oper} {hops:List HOper} (ro:RegionOk g.P g.gt g.N ops hops) (i j m:Nat) (hj:((hops.drop i).take j).length = j) (ht:(((hops.drop i).take j).all fun o=>t.all fun p=>decide (o.dst ≠ some p.1)) = true)
    (h:WO pNone ((hops.drop i).take j) (fun e' H'=>HW g ops Q (i + j) m t q e' H') e H):HW g ops Q i (j + m) t q e H:=by
  obtain ⟨e',H',⟨n,hn⟩,hk⟩:=WO_sound h
  intro L w a hy
  have:=runOps_hy (pNone_ok n) (callN_keeps pNone n) (ops:=ops) (Q:=Q) (m:=m) ((hops.drop i).take j) i e e' H H' L w a (fun k ho hk=>?_) (fun ho hho p hp=>?_) hy (hn n (Nat.le_refl _)) (by rw [hj];exact hk)
  · rw [hj] at this;exact this
  · have hkj:k < j:=by have:=lt_of_getElem? hk;omega
    rw [List.getElem?_take,if_pos hkj,List.getElem?_drop] at hk
    exact ro.ok _ _ hk
  · simp only [List.all_eq_true,decide_eq_true_eq] at ht
    exact ht ho hho p hp
theorem hw_end {ops:Array Oper} {i:Nat} (h:HK g t q (Q .normal) e H):HW g ops Q i 0 t q e H:=fun L w a hy=>h L w a hy
theorem hw_op {ops:Array Oper} {hops:List HOper} (ro:RegionOk g.P g.gt g.N ops hops) (i m:Nat) {ho:HOper} (hi:hops[i]? = some ho) (hgd:ho.guard = none)
    (h:∀ o,OpOk g.P g.gt ops g.N i ho o→∀ L w a,HY g t q e H L w a→o.wp g.P a w (wpOps g.P ops Q (List.range' (i + 1) m)) Q):HW g ops Q i (m + 1) t q e H:=by
  intro L w a hy
  obtain ⟨o,ok⟩:=ro.ok i ho hi
  rw [List.range'_succ]
  simp only [wpOps,ok.at_]
  have hg:=ok.guard
  rw [hgd] at hg
  rw [wanted_sound (b:=true) hg hy.R (fun _=>rfl) rfl,if_pos rfl]
  exact .inl (h o ok L w a hy)
theorem cO_slot {gt:Nat→Option (List D)} {x:Operand} {s:Nat} (h:cO gt x = some (.slot s)):x = .tmp s:=by
  cases x <;> simp only [cO,Option.some.injEq,HO.slot.injEq,reduceCtorEq] at h
  case tmp=>rw [h]
  all_goals (repeat' split at h) <;> simp_all
theorem mapMove {α:Type} {x:Option α} {f:α→HOp} {h:HOp} (hx:x.map f = some h) (hf:∀ a,f a ≠ h):False:=by
  obtain ⟨a,_,e⟩:=map_mk hx
  exact hf a e.symm
theorem move_inv {P:Program} {gt:Nat→Option (List D)} {op:Op} {s:Nat} (h:cOp P gt op = some (.move (.slot s))):∃ x,(op = .move x ∨ op = .assign x) ∧ x = .tmp s:=by
  have mm:∀ {x:Operand},(cO gt x).map HOp.move = some (.move (.slot s))→x = .tmp s:=fun {x} h=>by
    obtain ⟨y,hx,e⟩:=map_mk h
    simp only [HOp.move.injEq] at e
    subst e
    exact cO_slot hx
  cases op
  case move x=>exact ⟨x,.inl rfl,mm (by simpa only [cOp] using h)⟩
  case assign x=>exact ⟨x,.inr rfl,mm (by simpa only [cOp] using h)⟩
  case call c=>
    exfalso
    simp only [cOp] at h
    unfold cCall at h
    (repeat' split at h) <;> first
      | contradiction
      | (cases h;done)
      | exact mapMove h (fun _=>by simp)
  all_goals
    exfalso
    simp only [cOp] at h
    (repeat' split at h) <;> first
      | contradiction
      | (cases h;done)
      | exact mapMove h (fun _=>by simp)
theorem hw_mv {ops:Array Oper} {hops:List HOper} (ro:RegionOk g.P g.gt g.N ops hops) (i m:Nat) {d s:Nat} {V:Value} {u:HV} (hi:hops[i]? = some ⟨some d,.move (.slot s),none,[]⟩) (hV:(s,V) ∈ t) (hu:e.get s = some u)
    (ht:∀ p ∈ t',p = (d,V) ∨ (p ∈ t ∧ p.1 ≠ d)) (h:HW g ops Q (i + 1) m t' q (e.put (some d) u) H):HW g ops Q i (m + 1) t q e H:=by
  refine hw_op ro i m hi rfl fun o ok L w a hy=>?_
  obtain ⟨v,hv1,hv2⟩:=hy.R s u hu
  have hT:=hy.T _ hV
  simp only at hT
  rw [hT] at hv1
  simp only [Option.some.injEq] at hv1
  subst hv1
  have hop:=ok.op
  have key:∃ x,(o.op = .move x ∨ o.op = .assign x) ∧ x = .tmp s:=by
    simp only at hop
    refine move_inv hop
  obtain ⟨x,hx,rfl⟩:=key
  have hev:a.eval (.tmp s) = V:=by
    have:=hy.T _ hV
    simp only at this
    show a.tmps.getD s undef = V
    simp [Array.getD_eq_getD_getElem?,this]
  refine upon_of (v:=V) (w':=w) (r:=.value V) (by rcases hx with hx | hx <;> simp [execOp,hx,hev]) (.inl rfl) ?_
  have hd:o.dst = some d:=ok.dst.symm
  have hdN:d < g.N:=ok.lt d hd
  rw [hd]
  refine h L w _ (hy.put (.refl _ _ _ _) hy.S hv2 (.refl _) (fun x hx=>by cases hx;exact hdN) (fun p hp=>?_) hy.O)
  rcases ht p hp with rfl | ⟨h1,h2⟩
  · exact put_eq (Nat.lt_of_lt_of_le hdN hy.N)
  · exact put_ne (fun e=>h2 (by simpa using e.symm)) (hy.T p h1)
def CForm (P:Program) (gt:Nat→Option (List D)) (c:Code):HC→Prop
  | .skip=>c = .skip
  | .region dr hops ks=>∃ id ops,c = .region id ops dr ∧ cRegion P gt ops dr = some (.region dr hops ks)
  | .seq p r=>∃ a b,c = .seq a b ∧ cCode P gt a = some p ∧ cCode P gt b = some r
  | .cond o p r=>∃ o' a b,c = .cond o' a b ∧ cO gt o' = some o ∧ cCode P gt a = some p ∧ cCode P gt b = some r
  | .block id _ p=>∃ b,c = .block id b ∧ cCode P gt b = some p
  | .loop _ p=>∃ b,c = .loop b ∧ cCode P gt b = some p
  | .scope p=>∃ b,c = .scope b ∧ cCode P gt b = some p
  | .label l=>c = .label l
  | .exit i=>c = .exit i
  | .ret=>c = .ret
theorem cc_form {P:Program} {gt:Nat→Option (List D)} {c:Code} {x:HC} (h:cCode P gt c = some x):CForm P gt c x:=by
  cases c <;> simp only [cCode] at h
  case skip=>cases h;rfl
  case region id ops dr=>
    obtain ⟨hops,rfl⟩:=cRegion_form h
    exact ⟨id,ops,rfl,h⟩
  case seq a b=>
    split at h
    · rename_i h1 h2;cases h;exact ⟨a,b,rfl,h1,h2⟩
    · cases h
  case cond o a b=>
    split at h
    · rename_i h0 h1 h2;cases h;exact ⟨o,a,b,rfl,h0,h1,h2⟩
    · cases h
  case block id b=>obtain ⟨x,h1,rfl⟩:=map_mk h;exact ⟨b,rfl,h1⟩
  case loop b=>obtain ⟨x,h1,rfl⟩:=map_mk h;exact ⟨b,rfl,h1⟩
  case scope b=>obtain ⟨x,h1,rfl⟩:=map_mk h;exact ⟨b,rfl,h1⟩
  case label l=>cases h;rfl
  case exit l=>cases h;rfl
  case ret=>cases h;rfl
  all_goals cases h
theorem hg_skip (h:HK g t q (Q .normal) e H):HG g .skip Q t q e H:=by
  intro c hc _ L w a hy
  obtain rfl:c = .skip:=cc_form hc
  exact wp_skip (h L w a hy)
theorem hg_ret (h:HK g t q (Q .ret) e H):HG g .ret Q t q e H:=by
  intro c hc _ L w a hy
  obtain rfl:c = .ret:=cc_form hc
  exact wp_ret (h L w a hy)
theorem hg_exit {i:Nat} (h:HK g t q (Q (.exit i)) e H):HG g (.exit i) Q t q e H:=by
  intro c hc _ L w a hy
  obtain rfl:c = .exit i:=cc_form hc
  exact wp_exit (h L w a hy)
theorem hg_label {i:Nat} (h:HK g t q (Q .normal) e H):HG g (.label i) Q t q e H:=by
  intro c hc _ L w a hy
  obtain rfl:c = .label i:=cc_form hc
  exact wp_label (h L w a hy)
theorem hg_region {hops:List HOper} {ks:List Nat} (h:∀ ops,RegionOk g.P g.gt g.N ops hops→HW g ops Q 0 hops.length t q e H):HG g (.region false hops ks) Q t q e H:=by
  intro c hc hN L w a hy
  obtain ⟨id,ops,rfl,h1⟩:∃ id ops,c = .region id ops false ∧ cRegion g.P g.gt ops false = some (.region false hops []):=cc_form hc
  obtain ⟨_,ro,_⟩:=cRegion_inv (N:=g.N) h1 hN
  refine wp_region ?_
  rw [List.range_eq_range',ro.len]
  exact h ops ro L w a hy
theorem hg_am {hops:List HOper} {ks:List Nat} (ht:(hops.all fun o=>t.all fun p=>decide (o.dst ≠ some p.1)) = true)
    (h:WO pNone hops (fun e' H'=>HK g t q (Q .normal) (e'.restrict ks) H') e H):HG g (.region false hops ks) Q t q e H:=by
  refine hg_region fun ops ro=>?_
  have e1:(hops.drop 0).take hops.length = hops:=by simp
  refine hw_am ro 0 hops.length 0 (by rw [e1]) (by rw [e1];exact ht) ?_
  rw [e1]
  exact WO_mono (fun e' H' hk=>hw_end (hk_restrict ks hk)) h
theorem hg_seq {p r:HC} (h:HG g p (qSeq g r Q) t q e H):HG g (.seq p r) Q t q e H:=by
  intro c hc hN L w a hy
  obtain ⟨x,y,rfl,h1,h2⟩:∃ x y,c = .seq x y ∧ cCode g.P g.gt x = some p.strip ∧ cCode g.P g.gt y = some r.strip:=cc_form hc
  simp only [HC.dstOk,Bool.and_eq_true] at hN
  refine wp_seq (wp_mono (h x h1 hN.1 L w a hy) fun ex a w hq=>?_)
  cases ex <;> first | exact hq y h2 hN.2 | exact hq
theorem hk_next {r:HC} (h:HG g r Q t q e H):HK g t q (qSeq g r Q .normal) e H:=fun L w a hy c hc hN=>h c hc hN L w a hy
theorem hg_cond {o:HO} {p r:HC} {b:Bool} (hb:evalO e o = some (.d (.bool b))) (h:HG g (if b then p else r) Q t q e H):HG g (.cond o p r) Q t q e H:=by
  intro c hc hN L w a hy
  obtain ⟨o',x,y,rfl,h0,h1,h2⟩:∃ o' x y,c = .cond o' x y ∧ cO g.gt o' = some o ∧ cCode g.P g.gt x = some p.strip ∧ cCode g.P g.gt y = some r.strip:=cc_form hc
  simp only [HC.dstOk,Bool.and_eq_true] at hN
  have hv:=(opnds_of hy.S.glob hy.R o' _ _ h0 hb).bool_inv
  refine wp_cond hv ?_
  cases b
  · exact h y h2 hN.2 L w a hy
  · exact h x h1 hN.1 L w a hy
theorem hg_block {id:Nat} {ks:List Nat} {p:HC} (h:HG g p (Exit.inBlock id Q) t q e H):HG g (.block id ks p) Q t q e H:=by
  intro c hc hN L w a hy
  obtain ⟨x,rfl,h1⟩:∃ x,c = .block id x ∧ cCode g.P g.gt x = some p.strip:=cc_form hc
  exact wp_block (h x h1 hN L w a hy)
theorem hg_loop {ks:List Nat} {p:HC} (n:Nat) (h:HR g n p Q t q e H):HG g (.loop ks p) Q t q e H:=by
  intro c hc hN L w a hy
  obtain ⟨x,rfl,h1⟩:∃ x,c = .loop x ∧ cCode g.P g.gt x = some p.strip:=cc_form hc
  exact wp_loop_rounds n (h x h1 hN L w a hy)
theorem hr_succ {n:Nat} {p:HC} (h:HG g p (qRound g n p Q) t q e H):HR g (n + 1) p Q t q e H:=by
  intro c hc hN L w a hy
  rw [rounds_succ]
  refine wp_mono (h c hc hN L w a hy) fun ex a w hq=>?_
  cases ex <;> first | exact hq c hc hN | exact hq
theorem hk_round {n:Nat} {p:HC} (h:HR g n p Q t q e H):HK g t q (qRound g n p Q .normal) e H:=fun L w a hy c hc hN=>h c hc hN L w a hy
theorem hg_scope {p:HC} (h:HG g p (Exit.noGoto Q) t q e H):HG g (.scope p) Q t q e H:=by
  intro c hc hN L w a hy
  obtain ⟨x,rfl,h1⟩:∃ x,c = .scope x ∧ cCode g.P g.gt x = some p.strip:=cc_form hc
  exact wp_scope_straight (h x h1 hN L w a hy)
theorem hy_call {P:Program} {gt:Nat→Option (List D)} {f:FuncId} {hf:HFun} (ok:FunOk P gt f hf) {H:St} {L:Lay} {w:World} {args:List HV} {vs:List Value} (S:Sim gt H L w) (V:VRels L H.tips w args vs)
    {Z:Ending→World→Prop}
    (h:∀ fn,P.funcs[f]? = some fn→fn.results.toList.mapM (cRes P) = some hf.res→HG ⟨P,gt,fn.ntmps,{ H with low:=none },L,w⟩ hf.code
      (fun ex a' w'=>(ex = .normal ∨ ex = .ret) ∧ a'.defers = [] ∧ ∃ v,(Go.results fn a'.tmps).run P w' = .ok v w' ∧ Z (.returned v) w') [] [] (enter hf.open_ 0 args) { H with low:=none }) :
    (∃ fn,P.funcs[f]? = some fn ∧ fn.body.isSome = true ∧ fn.name ≠ "runtime.NumGoroutine") ∧ Calls P f vs.toArray w Z:=by
  obtain ⟨fn,c,h1,h2,h3,h4,h5,h6⟩:=ok.ex
  refine ⟨⟨fn,h1,by rw [h2];rfl,h3⟩,calls_of_wp h1 h2 ?_⟩
  refine wp_mono (h fn h1 h5 c h4 h6 L w _ ⟨S.congr rfl rfl,enter_rel V,by simp;omega,rfl,.refl _ _ _ _,.refl _,(fun p hp=>by cases hp),(fun p hp=>by cases hp)⟩) fun ex a' w' hq=>?_
  obtain ⟨hx,hd,v,hr,hz⟩:=hq
  rcases hx with rfl | rfl
  · exact ⟨hd,v,hr,hz⟩
  · exact ⟨hd,v,hr,hz⟩
end
end Am
namespace Am
open Go
section
variable {P:Program} {gt:Nat→Option (List D)}
theorem append_inv {op:Op} {sz x y:Nat} (h:cOp P gt op = some (.append sz (.slot x) (.slot y))):∃ (c:Call) (s e:TypeId) (i:TypeInfo) (z:List HV),
    op = .call c ∧ c.callee = .builtin .append ∧ c.args = #[.tmp x,.tmp y] ∧ c.argTypes = #[s,s] ∧ P.underlying s = some (.slice e) ∧ tSize P e = some sz ∧ P.info? e = some i ∧ tZero P e = some z ∧ i.bytes ≤ 65536 ∧ z.length = sz:=by
  cases op
  case call c=>
    simp only [cOp] at h
    cases hb:c.callee with
    | invoke r n=>simp [cCall,hb] at h
    | value v=>
      exfalso
      unfold cCall at h
      rw [hb] at h
      (repeat' split at h) <;> first
        | contradiction
        | (cases h;done)
        | exact mapMove h (fun _=>by simp)
    | builtin b=>
      unfold cCall at h
      rw [hb] at h
      simp only at h
      split at h
      · exfalso
        (repeat' split at h) <;> first
          | contradiction
          | (cases h;done)
      · rename_i x y s t hx ht
        obtain ⟨p,q,ha,hp,hq⟩:=list_two hx
        split at h
        · rename_i hst
          subst hst
          split at h
          · rename_i e hu
            split at h
            · rename_i sz i z h1 h2 h3
              split at h
              · rename_i hcond
                simp only [Option.some.injEq,HOp.append.injEq] at h
                obtain ⟨rfl,rfl,rfl⟩:=h
                have:=cO_slot hp
                subst this
                have:=cO_slot hq
                subst this
                refine ⟨c,s,e,i,z,rfl,hb,ha,?_,hu,h1,h2,h3,hcond.1,hcond.2.2⟩
                apply Array.ext'
                rw [ht]
              · cases h
            · cases h
          · cases h
        · cases h
      all_goals
        exfalso
        (repeat' split at h) <;> first
          | contradiction
          | (cases h;done)
          | exact mapMove h (fun _=>by simp)
  all_goals
    exfalso
    simp only [cOp] at h
    (repeat' split at h) <;> first
      | contradiction
      | (cases h;done)
      | exact mapMove h (fun _=>by simp)
theorem slice_inv {op:Op} {sz x y:Nat} (h:cOp P gt op = some (.sliceSl sz (.slot x) none (some (.slot y)))):∃ (s e:TypeId),
    op = .slice s (.tmp x) none (some (.tmp y)) none ∧ P.underlying s = some (.slice e) ∧ tSize P e = some sz:=by
  cases op
  case slice t x' lo hi mx=>
    cases mx with
    | some m=>exfalso;simp only [cOp] at h;(repeat' split at h) <;> first | contradiction | (cases h;done) | exact mapMove h (fun _=>by simp)
    | none=>
    simp only [cOp] at h
    split at h
    · exfalso;cases h
    · rename_i e a b c h1 h2 h3 h4
      obtain ⟨n,hn,he⟩:=map_mk h
      simp only [HOp.sliceSl.injEq] at he
      obtain ⟨rfl,rfl,rfl,rfl⟩:=he
      have:=cO_slot h2
      subst this
      have e3:lo = none:=by
        cases lo with
        | none=>rfl
        | some l=>simp [cOpt] at h3
      subst e3
      have e4:hi = some (.tmp y):=by
        cases hi with
        | none=>simp [cOpt] at h4
        | some l=>
          simp only [cOpt] at h4
          obtain ⟨z,hz,hz'⟩:=map_mk h4
          simp only [Option.some.injEq] at hz'
          subst hz'
          rw [cO_slot hz]
      subst e4
      exact ⟨t,e,rfl,h1,hn⟩
    · exfalso;exact mapMove h (fun _=>by simp)
    · cases h
  case call c=>
    exfalso
    simp only [cOp] at h
    unfold cCall at h
    (repeat' split at h) <;> first
      | contradiction
      | (cases h;done)
      | exact mapMove h (fun _=>by simp)
  all_goals
    exfalso
    simp only [cOp] at h
    (repeat' split at h) <;> first
      | contradiction
      | (cases h;done)
      | exact mapMove h (fun _=>by simp)
theorem build_inv {op:Op} {sz x:Nat} (h:cOp P gt op = some (.buildSlice sz [.slot x])):∃ (s e:TypeId) (z:List HV),
    op = .buildSlice s 1 #[(0,.tmp x)] ∧ P.underlying s = some (.slice e) ∧ tSize P e = some sz ∧ tZero P e = some z ∧ sz ≤ 65536:=by
  cases op
  case buildSlice t len ps=>
    simp only [cOp] at h
    split at h
    · rename_i e hu
      split at h
      · rename_i n xs z hn hxs hz
        split at h
        · rename_i hcond
          obtain ⟨hrange,hroom⟩:=hcond
          simp only [Option.some.injEq,HOp.buildSlice.injEq] at h
          obtain ⟨rfl,rfl⟩:=h
          obtain ⟨hl,hk⟩:=mapM_len hxs
          have h1:ps.toList.length = 1:=by simpa using hl.symm
          have h2:len = 1:=by have:=congrArg List.length hrange;simp at this;simpa [← this] using h1
          subst h2
          obtain ⟨p,hp⟩:=List.length_eq_one_iff.1 h1
          obtain ⟨y,hy1,hy2⟩:=hk 0 p (by rw [hp];rfl)
          simp only [List.getElem?_cons_zero,Option.some.injEq] at hy1
          subst hy1
          have hp0:p.1 = 0:=by rw [hp] at hrange;simpa using hrange
          have hp1:=cO_slot hy2
          have hps:ps = #[(0,.tmp x)]:=by
            apply Array.ext'
            rw [hp,← hp0,← hp1]
          subst hps
          exact ⟨t,e,z,rfl,hu,hn,hz,by simpa using hroom⟩
        · cases h
      · cases h
    · cases h
  case call c=>
    exfalso
    simp only [cOp] at h
    unfold cCall at h
    (repeat' split at h) <;> first
      | contradiction
      | (cases h;done)
      | exact mapMove h (fun _=>by simp)
  all_goals
    exfalso
    simp only [cOp] at h
    (repeat' split at h) <;> first
      | contradiction
      | (cases h;done)
      | exact mapMove h (fun _=>by simp)
theorem make_inv {op:Op} {sz x y:Nat} {z:List HV} (h:cOp P gt op = some (.makeSlice sz z (.slot x) (.slot y))):∃ (s e:TypeId) (i:TypeInfo),
    op = .makeSlice s (.tmp x) (.tmp y) ∧ P.underlying s = some (.slice e) ∧ tSize P e = some sz ∧ tZero P e = some z ∧ P.info? e = some i ∧ i.bytes ≤ 65536:=by
  cases op
  case makeSlice t l c=>
    simp only [cOp] at h
    split at h
    · rename_i e l' c' h1 h2 h3
      split at h
      · rename_i n z' i hn hz hi
        split at h
        · rename_i hb
          simp only [Option.some.injEq,HOp.makeSlice.injEq] at h
          obtain ⟨rfl,rfl,rfl,rfl⟩:=h
          rw [cO_slot h2,cO_slot h3]
          exact ⟨t,e,i,rfl,h1,hn,hz,hi,hb⟩
        · cases h
      · cases h
    · cases h
  case call c=>
    exfalso
    simp only [cOp] at h
    unfold cCall at h
    (repeat' split at h) <;> first
      | contradiction
      | (cases h;done)
      | exact mapMove h (fun _=>by simp)
  all_goals
    exfalso
    simp only [cOp] at h
    (repeat' split at h) <;> first
      | contradiction
      | (cases h;done)
      | exact mapMove h (fun _=>by simp)
end
section
variable {g:Hg} {t t':List (Nat × Value)} {q q':List (Nat × Nat)} {e:Env} {H H':St} {L L':Lay} {w w':World} {a:Act} {Q:Exit→Act→World→Prop}
theorem HY.eval (h:HY g t q e H L w a) {x:Nat} {V:Value} (hV:(x,V) ∈ t):a.eval (.tmp x) = V:=by
  have:=h.T _ hV
  simp only at this
  show a.tmps.getD x undef = V
  simp [Array.getD_eq_getD_getElem?,this]
theorem HY.val (h:HY g t q e H L w a) {x:Nat} {u:HV} (hu:e.get x = some u):VRel L H.tips w u (a.eval (.tmp x)):=by
  obtain ⟨v,h1,h2⟩:=h.R x u hu
  have:a.eval (.tmp x) = v:=by
    show a.tmps.getD x undef = v
    simp [Array.getD_eq_getD_getElem?,h1]
  rw [this];exact h2
theorem HY.kept (h:HY g t q e H L w a) {d:Nat} {V:Value} (hd:d < g.N) (ht:∀ p ∈ t',p = (d,V) ∨ (p ∈ t ∧ p.1 ≠ d)):∀ p ∈ t',(a.put (some d) V).tmps[p.1]? = some p.2:=fun p hp=>by
  rcases ht p hp with rfl | ⟨h1,h2⟩
  · exact put_eq (Nat.lt_of_lt_of_le hd h.N)
  · exact put_ne (fun e=>h2 (by simpa using e.symm)) (h.T p h1)
theorem hw_slice {ops:Array Oper} {hops:List HOper} (ro:RegionOk g.P g.gt g.N ops hops) (i m:Nat) {d x y o b n cap sz k:Nat} {ik:IntKind} (hi:hops[i]? = some ⟨some d,.sliceSl sz (.slot x) none (some (.slot y)),none,[]⟩)
    (hV:(x,Value.slice (some ⟨b,0,none⟩) n cap) ∈ t) (hq:(o,b) ∈ q) (hk:e.get y = some (.d (.int ik (k:Int)))) (hkn:k ≤ n) (hn:n ≤ cap) (h0:0 < cap)
    (ht:∀ p ∈ t',p = (d,Value.slice (some ⟨b,0,none⟩) k cap) ∨ (p ∈ t ∧ p.1 ≠ d)) (h:HW g ops Q (i + 1) m t' q (e.put (some d) (.row o 0 k sz)) H):HW g ops Q i (m + 1) t q e H:=by
  refine hw_op ro i m hi rfl fun op ok L w a hy=>?_
  obtain ⟨s,el,ho,hu,hsz⟩:=slice_inv ok.op
  obtain ⟨ti,hti,htn,hn0⟩:=size_inv hsz
  have hx:=hy.eval hV
  have hyv:=(hy.val hk).int_inv
  have hd:op.dst = some d:=ok.dst.symm
  have hdN:d < g.N:=ok.lt d hd
  have hr:=run_bounds (P:=g.P) (w:=w) (η:=a.eval) (isSlice:=true) (lo:=none) (hi:=some (.tmp y)) (l:=0) (q:=(k:Int)) hn (.inl ⟨rfl,rfl⟩) (.inr ⟨_,ik,rfl,hyv⟩) (by simp [boundsOk];omega)
  have run:(execOp a.eval op).run g.P w = .ok (.value (.slice (some ⟨b,0,none⟩) k cap)) w:=by
    have hz:¬ cap = 0:=by omega
    simp only [Option.map_none,Option.map_some,hyv] at hr
    simp [execOp,ho,hx,Instr.sliceAt,run_underlying hu,Instr.slice,hyv,hr,run_sizeOf hti,htn,hz,Addr.add_lit]
  refine upon_of run (.inl rfl) ?_
  rw [hd]
  exact h L w _ (hy.put (.refl _ _ _ _) hy.S (.row _ _ _ _ _ _ (hy.O _ hq).2 (by omega)) (.refl _) (fun x hx=>by cases hx;exact hdN) (hy.kept hdN ht) hy.O)
end
end Am
