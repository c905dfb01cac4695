/- A part of the proof of BuildAgain: no condition of its own. Whence: AmFun. -/
import Derived.Test.YtgepkelfblhpnaaGreatDoorA13
set_option linter.all false
namespace Am
open Go
section
variable {P:Program} {gt:Nat→Option (List D)} {L L' L0:Lay} {H H':St} {w w' w0:World} {tips tips' tips0:List Nat} {call:CallT} {N:Nat}
theorem shut1_rel {u:HV} {v:Value} (h:VRel L tips w u v):VRel L tips w (shut1 u) v:=by
  cases h <;> simp only [shut1] <;> first
    | exact .d _ _ (by assumption)
    | exact .ref _ _ _ (by assumption)
    | exact .row _ _ _ _ _ _ (by assumption) (by assumption)
    | exact .map _ _ (by assumption)
    | exact .iref _ _ _ (by assumption)
    | exact .fn _ _ _ _ _ (by assumption) (by assumption)
    | exact .agg _ _ (by assumption)
    | exact .tup _ _ (by assumption)
theorem half1_rel {u:HV} {v:Value} (h:VRel L tips w u v):VRel L tips w (half1 u) v:=by
  cases h with
  | own rows t v h h'=>
    cases t with
    | exact=>exact .own _ _ _ h h'
    | tok t s=>exact .d _ _ h
  | d x v h=>exact .d _ _ h
  | ref _ _ _ h=>exact .ref _ _ _ h
  | row _ _ _ _ _ _ h h'=>exact .row _ _ _ _ _ _ h h'
  | map _ _ h=>exact .map _ _ h
  | iref _ _ _ h=>exact .iref _ _ _ h
  | fn _ _ _ _ _ h h'=>exact .fn _ _ _ _ _ h h'
  | agg _ _ h=>exact .agg _ _ h
  | tup _ _ h=>exact .tup _ _ h
theorem map_rel1 {f:HV→HV} (hf:∀ {u:HV} {v:Value},VRel L tips w u v→VRel L tips w (f u) v):∀ {us:List HV} {vs:List Value},VRels L tips w us vs→VRels L tips w (us.map f) vs
  | [],_,.nil=>.nil
  | _ :: _,_,.cons _ _ _ _ h h'=>.cons _ _ _ _ (hf h) (map_rel1 hf h')
theorem shut_rel {u:HV} {v:Value} (h:VRel L tips w u v):VRel L tips w (shut u) v:=by
  cases h with
  | agg cs vs h=>exact .agg _ _ (map_rel1 shut1_rel h)
  | d x v h=>exact shut1_rel (.d _ _ h)
  | own rows t v h h'=>exact shut1_rel (.own _ _ _ h h')
  | ref _ _ _ h=>exact shut1_rel (.ref _ _ _ h)
  | row _ _ _ _ _ _ h h'=>exact shut1_rel (.row _ _ _ _ _ _ h h')
  | map _ _ h=>exact shut1_rel (.map _ _ h)
  | iref _ _ _ h=>exact shut1_rel (.iref _ _ _ h)
  | fn _ _ _ _ _ h h'=>exact shut1_rel (.fn _ _ _ _ _ h h')
  | tup _ _ h=>exact shut1_rel (.tup _ _ h)
theorem half_rel {u:HV} {v:Value} (h:VRel L tips w u v):VRel L tips w (half u) v:=by
  cases h with
  | agg cs vs h=>exact .agg _ _ (map_rel1 half1_rel h)
  | d x v h=>exact half1_rel (.d _ _ h)
  | own rows t v h h'=>exact half1_rel (.own _ _ _ h h')
  | ref _ _ _ h=>exact half1_rel (.ref _ _ _ h)
  | row _ _ _ _ _ _ h h'=>exact half1_rel (.row _ _ _ _ _ _ h h')
  | map _ _ h=>exact half1_rel (.map _ _ h)
  | iref _ _ _ h=>exact half1_rel (.iref _ _ _ h)
  | fn _ _ _ _ _ h h'=>exact half1_rel (.fn _ _ _ _ _ h h')
  | tup _ _ h=>exact half1_rel (.tup _ _ h)
theorem enter_get {open_:List Nat}:∀ {vs:List HV} {i k:Nat} {u:HV},(enter open_ i vs).get k = some u→∃ j v,k = i + j ∧ vs[j]? = some v ∧ (u = v ∨ u = shut v)
  | [],_,_,_,h=>by simp [enter,Env.get] at h
  | v :: vs,i,k,u,h=>by
    simp only [enter,Env.get] at h
    split at h
    · rename_i hk
      simp only [Option.some.injEq] at h
      refine ⟨0,v,by omega,rfl,?_⟩
      rw [← h]
      split
      · exact .inl rfl
      · exact .inr rfl
    · obtain ⟨j,x,h1,h2,h3⟩:=enter_get h
      exact ⟨j + 1,x,by omega,by simpa using h2,h3⟩
theorem enter_rel {open_:List Nat} {args:List HV} {vs:List Value} {rest:Array Value} (h:VRels L tips w args vs):EnvRel (enter open_ 0 args).get L tips w { tmps:=vs.toArray ++ rest,defers:=[] }:=by
  intro k u hk
  obtain ⟨j,x,h1,h2,h3⟩:=enter_get hk
  obtain ⟨v,hv,hr⟩:=h.get j h2
  have e:k = j:=by omega
  subst e
  have hlt:k < vs.length:=lt_of_getElem? hv
  refine ⟨v,?_,?_⟩
  · rw [Array.getElem?_append_left (by simpa using hlt)];simpa using hv
  · rcases h3 with rfl | rfl
    · exact hr
    · exact shut_rel hr
def readRes (a:Act):ResultVar→Sem Value
  | .tmp t=>pure (a.tmps.getD t undef)
  | .cell c t=>do loadVar t (← asAddr (a.tmps.getD c undef))
theorem results_run (S:Sim gt H L w) {a:Act} {e:Env} (R:EnvRel e.get L H.tips w a):∀ (rs:List ResultVar) (hrs:List HRes) (vs:List HV),rs.mapM (cRes P) = some hrs→results e H hrs = some vs →
    ∃ xs:List Value,(rs.mapM (readRes a)).run P w = .ok xs w ∧ VRels L H.tips w vs xs
  | [],hrs,vs,h1,h2=>by
    rw [mapM_some_nil h1] at h2
    simp only [results,Option.some.injEq] at h2
    subst h2
    exact ⟨[],by simp,.nil⟩
  | r :: rs,hrs,vs,h1,h2=>by
    obtain ⟨hr,hrs',h3,h4,rfl⟩:=mapM_some_cons h1
    cases r with
    | tmp t=>
      simp only [cRes,Option.some.injEq] at h3
      subst h3
      simp only [results] at h2
      split at h2
      · rename_i v vs' hv hvs
        simp only [Option.some.injEq] at h2
        subst h2
        obtain ⟨xs,h5,h6⟩:=results_run S R rs hrs' vs' h4 hvs
        obtain ⟨x,h7,h8⟩:=R t v hv
        refine ⟨x :: xs,?_,.cons _ _ _ _ h8 h6⟩
        rw [List.mapM_cons]
        have e1:a.tmps.getD t undef = x:=by simp [Array.getD_eq_getD_getElem?,h7]
        simp only [readRes,e1,Sem.run_bind,Sem.run_pure,Result.andThen_ok,h5]
      · cases h2
    | cell c t=>
      simp only [cRes] at h3
      split at h3
      · rename_i sz g hsz hg
        simp only [Option.some.injEq] at h3
        subst h3
        obtain ⟨i,hi,hin,hn0⟩:=size_inv hsz
        simp only [results] at h2
        split at h2
        · rename_i ad had
          split at h2
          · rename_i cs hcs
            split at h2
            · rename_i v vs' hv hvs
              simp only [Option.some.injEq] at h2
              subst h2
              obtain ⟨xs,h5,h6⟩:=results_run S R rs hrs' vs' h4 hvs
              obtain ⟨x,h7,h8⟩:=R c ad had
              obtain ⟨b,off,vals,hx,hl,hcell,hrel⟩:=read_sound S h8 hcs
              have hrun:=run_load_at (P:=P) hi hg b off vals (by rw [hl,hin]) (fun hgf=>by subst hgf;rw [hin];exact mkV_false hv (read_length hcs)) hcell
              refine ⟨_ :: xs,?_,.cons _ _ _ _ (mkV_rel hrel hv) h6⟩
              rw [List.mapM_cons]
              subst hx
              have e1:a.tmps.getD c undef = .pointer (some ⟨b,off,none⟩):=by simp [Array.getD_eq_getD_getElem?,h7]
              have e2:∀ q:Addr,asAddr (.pointer (some q)) = pure q:=fun _=>rfl
              simp only [readRes,e1,e2,Sem.run_bind,Sem.run_pure,Result.andThen_ok,hrun,h5]
            · cases h2
          · cases h2
        · cases h2
      · cases h3
def oneOrTupV:List Value→Value
  | [x]=>x
  | xs=>.tuple xs.toArray
theorem results_ok (S:Sim gt H L w) {a:Act} {e:Env} (R:EnvRel e.get L H.tips w a) {fn:Func} {hrs:List HRes} {vs:List HV} (h1:fn.results.toList.mapM (cRes P) = some hrs) (h2:results e H hrs = some vs) :
    ∃ (v:Value) (xs:List Value),(Go.results fn a.tmps).run P w = .ok v w ∧ VRels L H.tips w vs xs ∧ v = oneOrTupV xs:=by
  obtain ⟨xs,h3,h4⟩:=results_run S R fn.results.toList hrs vs h1 h2
  refine ⟨_,xs,?_,h4,rfl⟩
  have e:Go.results fn a.tmps = (do
    let vs ← fn.results.mapM (readRes a)
    pure (if h:vs.size = 1 then vs[0] else .tuple vs)):=rfl
  rw [e,Array.mapM_eq_mapM_toList]
  simp only [Sem.run_bind,Sem.run_map,h3]
  cases xs with
  | nil=>simp [oneOrTupV]
  | cons x xs=>cases xs <;> simp [oneOrTupV]
theorem oneOrTup_rel {us:List HV} {xs:List Value} (h:VRels L tips w us xs):VRel L tips w (oneOrTup us) (oneOrTupV xs):=by
  cases h with
  | nil=>exact .tup _ _ .nil
  | cons u x us xs h h'=>
    cases h' with
    | nil=>exact h
    | cons u' x' us xs h1 h2=>exact .tup _ _ (.cons _ _ _ _ h (.cons _ _ _ _ h1 h2))
theorem Sim.raise (S:Sim gt H L w) (I':Nat→Nat) (hm:∀ b,L.I b ≤ I' b) (ho:∀ b,Owned L b→I' b = L.I b) (hf:∀ b,w.heap.size ≤ b→I' b = 0) :
    Sim gt H { L with I:=I' } w ∧ ∀ n,Ext n L H.tips w { L with I:=I' } H.tips w:=by
  have e:∀ n,Ext n L H.tips w { L with I:=I' } H.tips w:=fun n=>{
    grow:=⟨hm,fun _ _ _=>rfl⟩
    φ:=fun _ _=>rfl
    tips:=fun _ k h=>⟨k,h,Nat.le_refl _,fun _=>rfl⟩
    size:=Nat.le_refl _
    tape:=rfl
    os:=rfl
    output:=rfl
    drawn:=Nat.le_refl _
    old:=fun _ _=>rfl
    base:=rfl
    pc:=fun _ _=>rfl }
  have st:=(e L.φ.length).stays
  exact ⟨{
    glob:=fun g cs h=>(S.glob g cs h).grow (e 0).grow
    nobj:=S.nobj
    ntip:=S.ntip
    obj:=fun o b x h1 h2=>(S.obj o b x h1 h2).move st rfl
    pend:=S.pend
    tip:=fun t n b sz cap h1 h2=>tip_move (S.tip t n b sz cap h1 h2) (ho b (.inr ⟨t,sz,cap,h2⟩)) rfl
    tip0:=S.tip0
    inj:=S.inj
    tinj:=S.tinj
    disj:=S.disj
    objI:=fun o b h=>by
      obtain ⟨h1,h2⟩:=S.objI o b h
      exact ⟨by show I' b = 0;rw [ho b (.inl ⟨o,h⟩)];exact h1,h2⟩
    fresh:=hf
    young:=S.young
    baseLe:=S.baseLe },e⟩
open Classical in
noncomputable def goneI (L:Lay) (w:World) (base:Nat):Nat→Nat:=fun b=>
  if ∃ o,base ≤ o ∧ L.φ[o]? = some (some b) then (match w.heap[b]? with | some (.cells cs _ _)=>cs.size | _=>0) else L.I b
theorem leave_sound (S:Sim gt H L w) {base nt:Nat} {τ':List (Option (Nat × Nat × Nat))} {tips':List Nat} (hb:base ≤ H.objs.length) (T:TipCut L H.tips nt τ' tips') (low:Option Nat)
    (hu:∀ (o:Nat) (c:List HV),o < base→H.objs[o]? = some (.cells c)→Unds base nt c) :
    Sim gt { objs:=H.objs.take base,tips:=tips',low } { L with I:=goneI L w base,φ:=L.φ.take base,τ:=τ' } w ∧
      Stays { L with φ:=L.φ.take base,τ:=τ' } tips' w { L with I:=goneI L w base,φ:=L.φ.take base,τ:=τ' } tips' w ∧
      (∀ n,Ext n { L with φ:=L.φ.take base,τ:=τ' } tips' w { L with I:=goneI L w base,φ:=L.φ.take base,τ:=τ' } tips' w) ∧
      ∀ u v,VRel L H.tips w u v→(shutR H base u).loose = false→VRel { L with I:=goneI L w base,φ:=L.φ.take base,τ:=τ' } tips' w (shutR H base u) v:=by
  have S1:=S.cutAt hb T low hu
  have hm:∀ b,L.I b ≤ goneI L w base b:=by
    intro b
    unfold goneI
    split
    · rename_i h
      obtain ⟨o,_,h⟩:=h
      rw [(S.objI o b h).1]
      exact Nat.zero_le _
    · exact Nat.le_refl _
  have hown:∀ b,Owned { L with φ:=L.φ.take base,τ:=τ' } b→goneI L w base b = L.I b:=by
    intro b ho
    unfold goneI
    rw [if_neg]
    rintro ⟨o,hle,h⟩
    rcases ho with ⟨o',ho'⟩ | ⟨t,s,c,ht⟩
    · obtain ⟨hlt,h2⟩:=take_get_inv ho'
      have:=S.inj o o' b h h2
      omega
    · have hlt:t < tips'.length:=by rw [← T.len];exact lt_of_getElem? ht
      obtain ⟨t',_,h4,_⟩:=T.from_ t _ _ (List.getElem?_eq_getElem hlt) ht
      exact S.disj o t' b s c h h4
  obtain ⟨S2,e2⟩:=S1.raise (goneI L w base) hm hown fun b hbb=>by
    unfold goneI
    rw [if_neg]
    · exact S.fresh b hbb
    · rintro ⟨o,_,h⟩
      have:=(S.objI o b h).2
      omega
  have st:Stays { L with φ:=L.φ.take base,τ:=τ' } tips' w { L with I:=goneI L w base,φ:=L.φ.take base,τ:=τ' } tips' w:=
    ⟨⟨hm,fun _ _ _=>rfl⟩,fun _ _ h=>h,fun _ k h=>⟨k,h,Nat.le_refl _,fun _=>rfl⟩,rfl⟩
  refine ⟨S2,st,e2,fun u v hv hl=>?_⟩
  have plain:∀ u',VRel L H.tips w u' v→u'.loose = false→VRel { L with I:=goneI L w base,φ:=L.φ.take base,τ:=τ' } tips' w u' v:=fun u' h1 h2=>
    (h1.cutAt T (und_loose h2)).move st
  have hs:=shut_rel hv
  unfold shutR at hl ⊢
  unfold St.freeze at hl ⊢
  generalize hsu:shut u = u' at hs hl
  cases u' with
  | row o off len sz=>
    try simp only at hl ⊢
    split at hl
    · rename_i hbo
      rw [if_pos hbo]
      split at hl
      · rename_i rows hrows
        rcases rows_sound S hs hrows with ⟨s,h,_⟩ | ⟨hall,ad,cap,vals,hve,hcap,hdc,hcell⟩
        · cases h
        · subst hve
          cases hs with
          | row _ _ _ _ b _ hφ hlc=>
            refine .d _ _ (drel_sl.2 ?_)
            rcases hcell with rfl | ⟨b',off',had,hc⟩
            · exact .inl ⟨rfl,_,_,rfl⟩
            · simp only [Option.some.injEq,Addr.mk.injEq] at had
              obtain ⟨rfl,rfl,_⟩:=had
              refine .inr ⟨b,off,cap,sz,rfl,hcap,hall,?_,fun k x hx=>?_⟩
              ·
                rcases Nat.eq_zero_or_pos rows.flatten.length with h0 | hpos
                · rw [h0,Nat.add_zero]
                  show off ≤ goneI L w base b
                  unfold goneI
                  rw [if_pos ⟨o,hbo,hφ⟩]
                  unfold St.rows at hrows
                  simp only [if_true] at hrows
                  split at hrows
                  · rename_i c hcells
                    split at hrows
                    · rename_i hle
                      have hoc:H.objs[o]? = some (.cells c):=by
                        unfold St.cells? at hcells
                        split at hcells
                        · rename_i ho;simp only [Option.some.injEq] at hcells;rw [ho,hcells]
                        · cases hcells
                      obtain ⟨vs,elem,⟨fz,hh,_⟩,hvr⟩:=S.obj o b _ hoc hφ
                      rw [hh]
                      have:=hvr.length
                      simp only [Array.length_toList] at this
                      simp only
                      omega
                    · cases hrows
                  · cases hrows
                · have hlast:=List.getElem?_eq_getElem (l:=rows.flatten) (i:=rows.flatten.length - 1) (by omega)
                  have hvl:rows.flatten.length = vals.length:=hdc.1
                  have hc':=hc (rows.flatten.length - 1) _ (List.getElem?_eq_getElem (by omega))
                  obtain ⟨cs,el,fz,hblk⟩:=cells_of_cell hc'
                  rw [cell_of_row w b _ cs el fz hblk] at hc'
                  have:=(Array.getElem?_eq_some_iff.1 hc').1
                  show off + rows.flatten.length ≤ goneI L w base b
                  unfold goneI
                  rw [if_pos ⟨o,hbo,hφ⟩,hblk]
                  simp only
                  omega
              · have hk:=lt_of_getElem? hx
                have hv':=List.getElem?_eq_getElem (l:=vals) (i:=k) (by rw [← hdc.1];exact hk)
                exact ⟨_,hc k _ hv',(hdc.2 k x _ hx hv').grow ⟨hm,fun _ _ _=>rfl⟩⟩
      · rename_i hrows
        exact plain _ hs hl
    · rename_i hbo
      rw [if_neg hbo]
      exact plain _ hs hl
  | _=>exact plain _ hs hl
theorem map_leave {us:List HV} {xs:List Value} {f:HV→HV} (h:VRels L tips w us xs) (hf:∀ u v,VRel L tips w u v→(f u).loose = false→VRel L' tips' w' (f u) v) (hl:∀ u ∈ us.map f,u.loose = false):VRels L' tips' w' (us.map f) xs:=by
  induction us generalizing xs with
  | nil=>cases h;exact .nil
  | cons u us ih=>
    cases h with
    | cons _ x _ xs h h'=>
      exact .cons _ _ _ _ (hf u x h (hl _ (by simp))) (ih h' fun y hy=>hl y (by simp at hy ⊢;exact .inr hy))
theorem finish_sound {pol:RetPol} {h H1:St} {L1:Lay} {w1:World} {us:List HV} {xs:List Value} {r:HV} (S0:Sim gt h L w) (k:Keeps { h with low:=none } H1) (e:Ext h.objs.length L h.tips w L1 H1.tips w1) (S1:Sim gt H1 L1 w1)
    (V:VRels L1 H1.tips w1 us xs) (hf:finish pol h us H1 = (r,H')) :
    ∃ L',Ext h.objs.length L h.tips w L' H'.tips w1 ∧ Sim gt H' L' w1 ∧ VRel L' H'.tips w1 r (oneOrTupV xs):=by
  have raw:∀ r H',(oneOrTup us,{ H1 with low:=minLow h.low H1.low }) = (r,H')→∃ L',Ext h.objs.length L h.tips w L' H'.tips w1 ∧ Sim gt H' L' w1 ∧ VRel L' H'.tips w1 r (oneOrTupV xs):=by
    rintro r H' he
    cases he
    exact ⟨L1,e,S1.congr rfl rfl,oneOrTup_rel V⟩
  have hk:=k.objs
  have ht:=k.tips
  simp only at hk ht
  have hu:lowOk h.objs.length H1.low = true→∀ (o:Nat) (c:List HV),o < h.objs.length→H1.objs[o]? = some (.cells c)→Unds h.objs.length h.tips.length c:=fun hl o c ho hc=>clean_of S0 k hl o c ho hc
  unfold finish at hf
  dsimp only at hf
  split at hf
  · exact raw _ _ hf
  · split at hf
    · rename_i hc
      simp only [Bool.and_eq_true,List.all_eq_true,Bool.not_eq_true'] at hc
      cases hf
      have T:=TipCut.take S1 h.tips.length
      obtain ⟨S2,_,e2,hv⟩:=leave_sound S1 hk T h.low (hu hc.1)
      exact ⟨_,(e.cutAt (Nat.le_refl _) (Nat.le_refl _) T).trans (e2 _),S2,oneOrTup_rel (map_leave V hv hc.2)⟩
    · exact raw _ _ hf
  · split at hf
    · rename_i hc
      simp only [Bool.and_eq_true,List.all_eq_true,Bool.not_eq_true'] at hc
      cases hf
      have T:=TipCut.take S1 h.tips.length
      exact ⟨_,e.cutAt (Nat.le_refl _) (Nat.le_refl _) T,S1.cutAt hk T h.low (hu hc.1),oneOrTup_rel (map_leave V (fun u v h1 h2=>(half_rel h1).cutAt T (und_loose h2)) hc.2)⟩
    · exact raw _ _ hf
  · split at hf
    · rename_i rows t s us'
      cases V with
      | cons _ x _ xs' V1 V2=>
      split at hf
      · rename_i hc
        simp only [Bool.and_eq_true,List.all_eq_true,Bool.not_eq_true',decide_eq_true_eq,beq_iff_eq] at hc
        obtain ⟨⟨⟨hc1,hc2⟩,hc3⟩,hc4⟩:=hc
        cases hf
        have hlt:t < L1.τ.length:=by rw [S1.ntip];exact lt_of_getElem? hc4
        have T:=TipCut.keep S1 ht hc3 hc4 (List.getElem?_eq_getElem hlt)
        obtain ⟨S2,st,e2,hv⟩:=leave_sound S1 hk T h.low (hu hc1)
        refine ⟨_,(e.cutAt (Nat.le_refl _) (Nat.le_refl _) T).trans (e2 _),S2,oneOrTup_rel (.cons _ _ _ _ ?_ (map_leave V2 hv hc2))⟩
        cases V1 with
        | own _ _ _ hd ho=>
          refine .own _ _ _ (hd.grow st.g) ?_
          obtain ⟨n,h1,h2,h3⟩:=ho
          rw [hc4] at h1
          simp only [Option.some.injEq] at h1
          subst h1
          obtain ⟨x',hx1,hx2⟩:=h3 rfl
          rw [List.getElem?_eq_getElem hlt] at hx1
          simp only [Option.some.injEq] at hx1
          have l1:(H1.tips.take h.tips.length).length = h.tips.length:=by simp;omega
          have l2:(L1.τ.take h.tips.length).length = h.tips.length:=by simp [S1.ntip];omega
          refine ⟨rows.length,?_,Nat.le_refl _,fun _=>⟨L1.τ[t],?_,?_⟩⟩
          · rw [List.getElem?_append_right (by omega),l1];simp
          · simp only
            rw [List.getElem?_append_right (by omega),l2];simp
          · rw [hx1];exact hx2
      · exact raw _ _ hf
    · rename_i rows us'
      cases V with
      | cons _ x _ xs' V1 V2=>
      split at hf
      · rename_i hc
        simp only [Bool.and_eq_true,List.all_eq_true,Bool.not_eq_true'] at hc
        cases hf
        have T:=TipCut.take S1 h.tips.length
        obtain ⟨S2,st,e2,hv⟩:=leave_sound S1 hk T h.low (hu hc.1)
        refine ⟨_,(e.cutAt (Nat.le_refl _) (Nat.le_refl _) T).trans (e2 _),S2,oneOrTup_rel (.cons _ _ _ _ ?_ (map_leave V2 hv hc.2))⟩
        cases V1 with
        | own _ _ _ hd ho=>exact .own _ _ _ (hd.grow st.g) ho
      · exact raw _ _ hf
    · exact raw _ _ hf
structure FunOk (P:Program) (gt:Nat→Option (List D)) (f:FuncId) (hf:HFun):Prop where
  ex:∃ (fn:Func) (c:Code),P.funcs[f]? = some fn ∧ fn.body = some c ∧ fn.name ≠ "runtime.NumGoroutine" ∧ cCode P gt c = some hf.code.strip ∧ fn.results.toList.mapM (cRes P) = some hf.res ∧ hf.code.dstOk fn.ntmps = true
def ExtOk (P:Program) (gt:Nat→Option (List D)) (f:FuncId) (g:List HV→St→Option HV):Prop:=
  ∀ (args:List HV) (H:St) (r:HV),g args H = some r →
    (∃ fn,P.funcs[f]? = some fn ∧ fn.body.isSome = true ∧ fn.name ≠ "runtime.NumGoroutine") ∧
    ∀ (L:Lay) (w:World) (vs:List Value),Sim gt H L w→VRels L H.tips w args vs →
      Calls P f vs.toArray w fun e w'=>∃ v L',e = .returned v ∧ Ext H.objs.length L H.tips w L' H.tips w' ∧ Sim gt H L' w' ∧ VRel L' H.tips w' r v
theorem call_ok {p:HProg} (hp:∀ f hf,p.funs f = some hf→FunOk P gt f hf) (hext:∀ f g,p.ext f = some g→ExtOk P gt f g):∀ n,CallsOk P gt (callN p n)
  | 0=>fun f args H r H' h=>by cases h
  | n + 1=>fun f args h r H' hc=>by
    have C:=call_ok hp hext n
    have K:=callN_keeps p n
    simp only [callN] at hc
    cases hx:p.ext f with
    | some g=>
      rw [hx] at hc
      dsimp only at hc
      cases hg:g args h with
      | none=>rw [hg] at hc;cases hc
      | some v=>
        rw [hg] at hc
        simp only [Option.map_some,Option.some.injEq,Prod.mk.injEq] at hc
        obtain ⟨rfl,rfl⟩:=hc
        exact hext f g hx args h v hg
    | none=>
    rw [hx] at hc
    simp only at hc
    cases hfun:p.funs f with
    | none=>rw [hfun] at hc;cases hc
    | some hf=>
      rw [hfun] at hc
      simp only at hc
      obtain ⟨fn,c,h1,h2,h3,h4,h5,h6⟩:=(hp f hf hfun).ex
      refine ⟨⟨fn,h1,by rw [h2];rfl,h3⟩,fun L w vs S V=>?_⟩
      unfold runFun at hc
      have S0:Sim gt { h with low:=none } L w:=S.congr rfl rfl
      have fin:∀ (o:Out) (e:Env) (H:St),exec n (callN p n) hf.code (enter hf.open_ 0 args) { h with low:=none } = some (o,e,H)→(outExit o = .normal ∨ outExit o = .ret)→(results e H hf.res).map (fun vs=>finish hf.pol h vs H) = some (r,H') →
          Calls P f vs.toArray w fun e w'=>∃ v L',e = .returned v ∧ Ext h.objs.length L h.tips w L' H'.tips w' ∧ Sim gt H' L' w' ∧ VRel L' H'.tips w' r v:=by
        intro o e H hx ho hres
        refine calls_of_wp h1 h2 ?_
        refine exec_ok C K n hf.code c h4 h6 _ _ _ _ _ hx L w _ S0 (enter_rel V) (by simp;omega) rfl _ fun a' w' hp=>?_
        obtain ⟨p1,p2,L1,p3,p4,p5⟩:=hp
        cases hvs:results e H hf.res with
        | none=>rw [hvs] at hres;cases hres
        | some us=>
          rw [hvs] at hres
          simp only [Option.map_some,Option.some.injEq] at hres
          obtain ⟨v,xs,q1,q2,q3⟩:=results_ok p4 p5 h5 hvs
          obtain ⟨L',q4,q5,q6⟩:=finish_sound S (exec_keeps K hf.code _ _ _ _ _ hx) p3 p4 q2 hres
          rw [← q3] at q6
          rcases ho with ho | ho <;> rw [ho]
          · exact ⟨p2,v,q1,v,L',rfl,q4,q5,q6⟩
          · exact ⟨p2,v,q1,v,L',rfl,q4,q5,q6⟩
      split at hc
      · cases hc
      · rename_i o e H hne hx
        refine fin o e H hx ?_ hc
        cases o with
        | normal=>exact .inl rfl
        | exit i=>exact (hne i rfl).elim
        | ret=>exact .inr rfl
      · cases hc
end
end Am
