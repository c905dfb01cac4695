/- A part of the proof of BuildAgain: no condition of its own. Whence: AmOps2, AmOps3, AmOps4. -/
import Derived.Test.YtgepkelfblhpnaaGreatDoorA03
import Derived.Laws.BytesString
set_option linter.all false
namespace Am
open Go
section
variable {P:Program} {gt:Nat→Option (List D)} {L:Lay} {H H':St} {w:World} {η:Operand→Value} {ρ:HO→Option HV} {o:Oper} {u:HV} {hop:HOp} {call:CallT}
theorem read_sound (S:Sim gt H L w) {x:HV} {v:Value} {sz:Nat} {cs:List HV} (hv:VRel L H.tips w x v) (h:H.read x sz = some cs) :
    ∃ b off vals,v = .pointer (some ⟨b,off,none⟩) ∧ vals.length = sz ∧ (∀ (j:Nat) (q:Value),vals[j]? = some q→w.cell? ⟨b,off + j,none⟩ = some q) ∧ VRels L H.tips w cs vals:=by
  unfold St.read at h
  split at h
  · rename_i o off
    split at h
    · rename_i c hc
      split at h
      · rename_i hle
        simp only [Option.some.injEq] at h
        subst h
        cases hv with
        | ref _ _ b hb=>
          unfold St.cells? at hc
          split at hc
          · rename_i c' ho
            simp only [Option.some.injEq] at hc
            subst hc
            obtain ⟨vs,elem,hh,hr⟩:=S.obj o b _ ho hb
            have hl:=hr.length
            refine ⟨b,off,(vs.toList.drop off).take sz,rfl,by simp at hl ⊢;omega,fun j q hj=>?_,(hr.drop off).take sz⟩
            rw [List.getElem?_take] at hj
            split at hj
            · rw [List.getElem?_drop] at hj
              rw [hh.cell]
              simpa using hj
            · cases hj
          · cases hc
      · cases h
    · cases h
  · rename_i cs'
    split at h
    · rename_i hle
      simp only [Option.some.injEq] at h
      subst h
      cases hv with
      | iref _ b off hb=>
        obtain ⟨cell,h1,h2⟩:=hb.fn
        refine ⟨b,off,(List.range sz).map cell,rfl,by simp,fun j q hj=>?_,VRels.mk_dcells (by simp;omega) fun k x v hx hv=>?_⟩
        · simp only [List.getElem?_map] at hj
          by_cases hjs:j < sz
          · simp only [List.getElem?_range hjs,Option.map_some,Option.some.injEq] at hj
            subst hj
            exact h1 j (cs'[j]'(by omega)) (by simp [List.getElem?_eq_getElem (show j < cs'.length by omega)])
          · rw [List.getElem?_eq_none (by simpa using hjs)] at hj;cases hj
        · rw [List.getElem?_take] at hx
          split at hx
          · rename_i hk
            simp only [List.getElem?_map,List.getElem?_range hk,Option.map_some,Option.some.injEq] at hv
            subst hv
            exact h2 k x hx
          · cases hx
    · cases h
  · cases h
theorem run_load_at {t:TypeId} {i:TypeInfo} (hi:P.info? t = some i) {g:Bool} (hg:tAgg P t = some g) (b off:Nat) (vals:List Value) (hl:vals.length = i.size) (h1:g = false→i.size = 1)
    (hc:∀ (j:Nat) (q:Value),vals[j]? = some q→w.cell? ⟨b,off + j,none⟩ = some q) :
    (loadVar t ⟨b,off,none⟩).run P w = .ok (if g then .agg vals.toArray else vals.getD 0 undef) w:=by
  have ha:=run_isAgg hg w
  cases g with
  | true=>
    have hlc:=run_loadCells_list (P:=P) w ⟨b,off,none⟩ vals (fun j v hv=>by rw [Addr.add_lit];exact hc j v hv)
    simp only [loadVar,Sem.run_bind,ha,Result.andThen_ok,if_true,run_sizeOf hi,← hl,hlc,Sem.run_pure]
  | false=>
    obtain ⟨q,rfl⟩:=List.length_eq_one_iff.1 (by rw [hl,h1 rfl]:vals.length = 1)
    have h0:=hc 0 q rfl
    simp only [Nat.add_zero] at h0
    simp [loadVar,ha,h0]
theorem mkV_false {cs:List HV} {r:HV} {n:Nat} (hr:mkV false cs = some r) (hl:cs.length = n):n = 1:=by
  unfold mkV at hr
  simp only [Bool.false_eq_true,if_false] at hr
  split at hr
  · simpa using hl.symm
  · cases hr
theorem read_length {x:HV} {sz:Nat} {cs:List HV} (h:H.read x sz = some cs):cs.length = sz:=by
  unfold St.read at h
  split at h
  · split at h
    · split at h
      · simp only [Option.some.injEq] at h;subst h;simp;omega
      · cases h
    · cases h
  · split at h
    · simp only [Option.some.injEq] at h;subst h;simp [dcells];omega
    · cases h
  · cases h
section
variable (S:Sim gt H L w) (R:Opnds gt L H.tips w η ρ) (h:stepOp call ρ H hop = some (u,H'))
include S R h
theorem g_load {t:TypeId} {x:Operand} (ho:o.op = .load t x) (hc:cOp P gt (.load t x) = some hop):Good P gt η o H L w u H':=by
  simp only [cOp] at hc
  split at hc
  · rename_i n g x' h1 h2 h3
    simp only [Option.some.injEq] at hc
    subst hc
    obtain ⟨i,hi,hin,hn0⟩:=size_inv h1
    simp only [stepOp] at h
    split at h
    · rename_i a ha
      split at h
      · rename_i cs hcs
        obtain ⟨r,hr,rfl,rfl⟩:=map_pair (f:=id) h
        obtain ⟨b,off,vals,hx,hl,hcell,hrel⟩:=read_sound S (R x x' _ h3 ha) hcs
        have hrun:=run_load_at (P:=P) hi h2 b off vals (by rw [hl,hin]) (fun hg=>by subst hg;rw [hin];exact mkV_false hr (read_length hcs)) hcell
        refine .same S (v:=if g then .agg vals.toArray else vals.getD 0 undef) ?_ (mkV_rel hrel hr)
        simp [execOp,ho,hx,Instr.loadAt,Instr.sureAddr,hrun]
      · cases h
    · cases h
  · cases hc
theorem g_convert {s t:TypeId} {x:Operand} (ho:o.op = .convert s t x) (hc:cOp P gt (.convert s t x) = some hop) (hns:∀ y,hop ≠ .convSB y) (hnb:∀ y,hop ≠ .convBS y) (hss:∀ y,hop ≠ .convSS y):Good P gt η o H L w u H':=by
  simp only [cOp] at hc
  split at hc
  · rename_i k k' y h1 h2 h3
    simp only [Option.some.injEq] at hc
    subst hc
    simp only [stepOp] at h
    split at h
    · rename_i j n hn
      simp only [Option.some.injEq,Prod.mk.injEq] at h
      obtain ⟨rfl,rfl⟩:=h
      have hx:=(R x y _ h3 hn).int_inv
      refine .same S ?_ (.d _ _ (.int _ _))
      simp [execOp,ho,hx,convert,run_underlying h1,run_underlying h2,Conv.intToInt]
    · cases h
  · rename_i e y h1 h2 h3
    split at hc <;> simp only [Option.some.injEq,reduceCtorEq] at hc
    exact absurd hc.symm (hnb _)
  · rename_i e y h1 h2 h3
    split at hc <;> simp only [Option.some.injEq,reduceCtorEq] at hc
    exact absurd hc.symm (hns _)
  · rename_i e e' y h1 h2 h3
    split at hc
    · split at hc
      · simp only [Option.some.injEq] at hc
        exact absurd hc.symm (hss _)
      · cases hc
    · cases hc
  · cases hc
omit S h in
theorem bnd_inv {lo:Option Operand} {lo':Option HO} {d l:Int} (hc:cOpt gt lo = some lo') (hl:bnd ρ lo' d = some l) :
    (lo = none ∧ l = d) ∨ ∃ x k,lo = some x ∧ η x = .int k l:=by
  cases lo with
  | none=>simp only [cOpt,Option.some.injEq] at hc;subst hc;simp only [bnd,Option.some.injEq] at hl;exact .inl ⟨rfl,hl.symm⟩
  | some x=>
    simp only [cOpt] at hc
    obtain ⟨y,hy,rfl⟩:=map_mk hc
    simp only [bnd] at hl
    cases hv:ρ y with
    | none=>simp [hv] at hl
    | some a=>
      simp only [hv,Option.bind_some] at hl
      obtain ⟨k,hk⟩:=intOf_inv (R x y a hy hv) hl
      exact .inr ⟨x,k,rfl,hk⟩
omit S R h in
theorem run_bounds {isSlice:Bool} {len cap:Nat} {lo hi:Option Operand} {l q:Int} (hlc:len ≤ cap)
    (h1:(lo = none ∧ l = 0) ∨ ∃ x k,lo = some x ∧ η x = .int k l) (h2:(hi = none ∧ q = (len:Int)) ∨ ∃ x k,hi = some x ∧ η x = .int k q) (hb:boundsOk l q len = true) :
    (Instr.sliceBounds isSlice len cap (lo.map η) (hi.map η) none).run P w = .ok (l.toNat,q.toNat,cap) w:=by
  simp only [boundsOk,Bool.and_eq_true,decide_eq_true_eq] at hb
  obtain ⟨⟨h0,h3⟩,h4⟩:=hb
  rcases h2 with ⟨rfl,rfl⟩ | ⟨y,k',rfl,hy⟩
  · rcases h1 with ⟨rfl,rfl⟩ | ⟨x,k,rfl,hx⟩
    · simp [Instr.sliceBounds]
    · have:=run_sliceBound (P:=P) w k l len .sliceB h0 (by omega)
      simp [Instr.sliceBounds,hx,this]
  · have e2:∀ c,(Instr.sliceBound (.int k' q) cap c).run P w = .ok q.toNat w:=fun c=>run_sliceBound (P:=P) w k' q cap c (by omega) (by omega)
    rcases h1 with ⟨rfl,rfl⟩ | ⟨x,k,rfl,hx⟩
    · simp [Instr.sliceBounds,hy,e2]
    · have e1:=run_sliceBound (P:=P) w k l q.toNat .sliceB h0 (by omega)
      simp [Instr.sliceBounds,hx,hy,e1,e2]
omit S R h in
theorem extract_mk (s:List UInt8) (a b:Nat):(ByteArray.mk s.toArray).extract a b = ByteArray.mk ((s.take b).drop a).toArray:=by
  apply ByteArray.ext
  simp [ByteArray.data_extract,List.extract_eq_take_drop,List.drop_take]
theorem g_slice {t:TypeId} {x:Operand} {lo hi:Option Operand} (ho:o.op = .slice t x lo hi none) (hc:cOp P gt (.slice t x lo hi none) = some hop):Good P gt η o H L w u H':=by
  simp only [cOp] at hc
  split at hc
  · rename_i x' lo' hi' h1 h2 h3 h4
    simp only [Option.some.injEq] at hc
    subst hc
    simp only [stepOp] at h
    split at h
    · rename_i s hs
      have hx:=(R x x' _ h2 hs).str_inv
      split at h
      · rename_i l q hl hq
        split at h
        · rename_i hb
          simp only [Option.some.injEq,Prod.mk.injEq] at h
          obtain ⟨rfl,rfl⟩:=h
          have b1:=bnd_inv R h3 hl
          have b2:=bnd_inv R h4 hq
          have hrun:=run_bounds (P:=P) (w:=w) (isSlice:=false) (len:=s.length) (cap:=s.length) (Nat.le_refl _) b1 b2 hb
          refine .same S ?_ (.d _ _ (.str _))
          simp [execOp,ho,hx,Instr.sliceAt,run_underlying h1,Instr.slice,size_mk,hrun,extract_mk]
        · cases h
      · cases h
    · cases h
  · rename_i e x' lo' hi' h1 h2 h3 h4
    obtain ⟨n,hn,rfl⟩:=map_mk hc
    obtain ⟨ti,hti,htn,hn0⟩:=size_inv hn
    have hsz:=fun w=>run_sizeOf hti (P:=P) w
    have hrun:∀ (a:Option Addr) (len cap:Nat) (l q:Int),η x = .slice a len cap→len ≤ cap→((lo = none ∧ l = 0) ∨ ∃ x k,lo = some x ∧ η x = .int k l)→((hi = none ∧ q = (len:Int)) ∨ ∃ x k,hi = some x ∧ η x = .int k q)→boundsOk l q len = true →
        (execOp η o).run P w = .ok (.value (.slice (if cap = l.toNat then a else a.map (·.add (l.toNat * n))) (q.toNat - l.toNat) (cap - l.toNat))) w:=by
      intro a len cap l q hx hlc b1 b2 hb
      have hr:=run_bounds (P:=P) (w:=w) (isSlice:=true) hlc b1 b2 hb
      simp [execOp,ho,hx,Instr.sliceAt,run_underlying h1,Instr.slice,hr,hsz,htn]
    simp only [stepOp] at h
    split at h
    · rename_i uv hv
      have vx:=R x x' _ h2 hv
      have rows:∀ rows:List (List D),DRel L.I w (.sl rows) (η x)→(match bnd ρ lo' 0,bnd ρ hi' (rows.length:Int) with
          | some l,some q=>if boundsOk l q rows.length && rows.all (·.length == n) then some (HV.d (.sl ((rows.take q.toNat).drop l.toNat)),H) else none
          | _,_=>none) = some (u,H')→Good P gt η o H L w u H':=by
        intro rows hd hh
        split at hh
        · rename_i l q hl hq
          split at hh
          · rename_i hb
            simp only [Bool.and_eq_true,List.all_eq_true,beq_iff_eq] at hb
            obtain ⟨hb,hall⟩:=hb
            simp only [Option.some.injEq,Prod.mk.injEq] at hh
            obtain ⟨rfl,rfl⟩:=hh
            have b1:=bnd_inv R h3 hl
            have b2:=bnd_inv R h4 hq
            have hb':=hb
            simp only [boundsOk,Bool.and_eq_true,decide_eq_true_eq] at hb'
            rcases drel_sl.1 hd with ⟨rfl,a,cap,hxe⟩ | ⟨b,off,cap,sz,hxe,hcap,hall',hcr⟩
            · refine .same S (hrun a 0 cap l q hxe (by omega) b1 b2 hb) (.d _ _ ?_)
              have e:q.toNat - l.toNat = 0:=by have:=hb'.2;simp at this;omega
              rw [e];simp only [List.take_nil,List.drop_nil];exact .sl0 _ _
            · refine .same S (hrun _ rows.length cap l q hxe hcap b1 b2 hb) (.d _ _ ?_)
              have elen:((rows.take q.toNat).drop l.toNat).length = q.toNat - l.toNat:=by simp;omega
              by_cases hcl:cap = l.toNat
              · have e:q.toNat - l.toNat = 0:=by omega
                have:(rows.take q.toNat).drop l.toNat = []:=List.length_eq_zero_iff.1 (by omega)
                rw [this,e];exact .sl0 _ _
              · rw [if_neg hcl,← elen]
                simp only [Option.map_some,Addr.add_lit]
                refine drel_sl.2 (.inr ⟨b,off + l.toNat * n,_,n,rfl,by omega,fun r hr=>hall r (List.mem_of_mem_take (List.mem_of_mem_drop hr)),?_⟩)
                have hfl:=flatten_len hall
                have key:((rows.take q.toNat).drop l.toNat).flatten = (rows.flatten.take (q.toNat * n)).drop (l.toNat * n):=by
                  rw [flatten_drop (fun r hr=>hall r (List.mem_of_mem_take hr)),flatten_take hall]
                rw [key]
                exact (hcr.take _).drop _ (by rw [List.length_take,hfl];exact Nat.le_min.2 ⟨Nat.mul_le_mul_right _ (by omega),Nat.mul_le_mul_right _ (by omega)⟩)
          · cases hh
        · cases hh
      split at h
      · cases vx with | d _ _ hd=>exact rows _ hd h
      · cases vx with | own _ _ _ hd _=>exact rows _ hd h
      · rename_i o' off len s
        split at h
        · rename_i l q hl hq
          split at h
          · rename_i hb
            simp only [Bool.and_eq_true,beq_iff_eq] at hb
            obtain ⟨hb,rfl⟩:=hb
            have b1:=bnd_inv R h3 hl
            have b2:=bnd_inv R h4 hq
            have hb':=hb
            simp only [boundsOk,Bool.and_eq_true,decide_eq_true_eq] at hb'
            generalize hη:η x = vx' at vx
            cases vx with
            | row _ _ _ _ b cap hbb hcap=>
              have hr:=hrun _ len cap l q hη hcap b1 b2 hb
              split at h <;> simp only [Option.some.injEq,Prod.mk.injEq] at h <;> obtain ⟨rfl,rfl⟩:=h
              · rename_i hlq
                refine .same S hr (.d _ _ ?_)
                have e:q.toNat - l.toNat = 0:=by omega
                rw [e];exact .sl0 _ _
              · rename_i hlq
                refine .same S hr ?_
                rw [if_neg (by omega)]
                simp only [Option.map_some,Addr.add_lit]
                have e:(q - l).toNat = q.toNat - l.toNat:=by omega
                rw [e]
                exact .row _ _ _ _ _ _ hbb (by omega)
          · cases h
        · cases h
      · cases h
    · cases h
  · rename_i m e x' lo' hi' h1 h2 h3 h4
    obtain ⟨n,hn,rfl⟩:=map_mk hc
    obtain ⟨ti,hti,htn,hn0⟩:=size_inv hn
    have hsz:=fun w=>run_sizeOf hti (P:=P) w
    simp only [stepOp] at h
    split at h
    · rename_i o' off hv
      have vx:=R x x' _ h2 hv
      split at h
      · rename_i l q hl hq
        split at h
        · rename_i hb
          have b1:=bnd_inv R h3 hl
          have b2:=bnd_inv R h4 hq
          have hr:=run_bounds (P:=P) (w:=w) (isSlice:=false) (len:=m) (cap:=m) (Nat.le_refl _) b1 b2 hb
          have hb':=hb
          simp only [boundsOk,Bool.and_eq_true,decide_eq_true_eq] at hb'
          generalize hη:η x = vx' at vx
          cases vx with
          | ref _ _ b hbb=>
            have hrun:(execOp η o).run P w = .ok (.value (.slice (some (if m = l.toNat then ⟨b,off,none⟩ else ⟨b,off + l.toNat * n,none⟩)) (q.toNat - l.toNat) (m - l.toNat))) w:=by
              simp [execOp,ho,hη,Instr.sliceAt,run_underlying h1,Instr.sureAddr,hr,hsz,htn,Addr.add_lit]
            split at h <;> simp only [Option.some.injEq,Prod.mk.injEq] at h <;> obtain ⟨rfl,rfl⟩:=h
            · refine .same S hrun (.d _ _ ?_)
              have e:q.toNat - l.toNat = 0:=by omega
              rw [e];exact .sl0 _ _
            · refine .same S hrun ?_
              rw [if_neg (by omega)]
              have e:(q - l).toNat = q.toNat - l.toNat:=by omega
              rw [e]
              exact .row _ _ _ _ _ _ hbb (by omega)
        · cases h
      · cases h
    · cases h
  · cases hc
theorem g_len {c:Call} (ho:o.op = .call c) (k:LK) (x:HO) (hx:hop = .len k x) (t:TypeId) (a:Operand) (hca:c.callee = .builtin .len) (hargs:c.args = #[a]) (hty:c.argTypes[0]? = some t) (hxa:cO gt a = some x)
    (hu:match k with
      | .s=>P.underlying t = some .string
      | .i=>∃ e,P.underlying t = some (.slice e)
      | .b=>∃ k e,P.underlying t = some (.map k e)):Good P gt η o H L w u H':=by
  subst hx
  have hex:∀ v n,η a = v→(Builtin.len_ c.argTypes o.type #[v]).run P w = .ok (.int .i64 n) w→(execOp η o).run P w = .ok (.value (.int .i64 n)) w:=by
    intro v n hv hr
    simp [execOp,ho,resolve,hca,hargs,hv,invoke,builtin,hr]
  simp only [stepOp] at h
  have slc:∀ (p:Option Addr) (n cap:Nat),η a = .slice p n cap→(∃ e,P.underlying t = some (.slice e))→(execOp η o).run P w = .ok (.value (.int .i64 n)) w:=by
    rintro p n cap hv ⟨e,he⟩
    exact hex _ _ hv (by simp [Builtin.len_,hty,run_underlying he,goInt])
  split at h
  · rename_i s hs
    simp only [Option.some.injEq,Prod.mk.injEq] at h
    obtain ⟨rfl,rfl⟩:=h
    exact .same S (hex _ _ (R a x _ hxa hs).str_inv (by simp [Builtin.len_,hty,run_underlying hu,goInt,size_mk])) (.d _ _ (.int _ _))
  · rename_i rows hs
    simp only [Option.some.injEq,Prod.mk.injEq] at h
    obtain ⟨rfl,rfl⟩:=h
    have hv:=R a x _ hxa hs
    generalize hη:η a = v at hv
    cases hv with
    | d _ _ hd=>
      rcases drel_sl.1 hd with ⟨rfl,p,cap,rfl⟩ | ⟨b,off,cap,sz,rfl,_⟩
      · exact .same S (slc _ _ _ hη hu) (.d _ _ (.int _ _))
      · exact .same S (slc _ _ _ hη hu) (.d _ _ (.int _ _))
  · rename_i rows t' hs
    simp only [Option.some.injEq,Prod.mk.injEq] at h
    obtain ⟨rfl,rfl⟩:=h
    have hv:=R a x _ hxa hs
    generalize hη:η a = v at hv
    cases hv with
    | own _ _ _ hd _=>
      rcases drel_sl.1 hd with ⟨rfl,p,cap,rfl⟩ | ⟨b,off,cap,sz,rfl,_⟩
      · exact .same S (slc _ _ _ hη hu) (.d _ _ (.int _ _))
      · exact .same S (slc _ _ _ hη hu) (.d _ _ (.int _ _))
  · rename_i o' off len sz hs
    simp only [Option.some.injEq,Prod.mk.injEq] at h
    obtain ⟨rfl,rfl⟩:=h
    have hv:=R a x _ hxa hs
    generalize hη:η a = v at hv
    cases hv with
    | row=>exact .same S (slc _ _ _ hη hu) (.d _ _ (.int _ _))
  · rename_i hs
    simp only [Option.some.injEq,Prod.mk.injEq] at h
    obtain ⟨rfl,rfl⟩:=h
    have hv:=R a x _ hxa hs
    generalize hη:η a = v at hv
    obtain ⟨kt,e,hu⟩:=hu
    cases hv with
    | d _ _ hd=>cases hd;exact .same S (hex _ 0 hη (by simp [Builtin.len_,hty,run_underlying hu,goInt])) (.d _ _ (.int _ _))
  · rename_i o' hs
    obtain ⟨es,hes,rfl,rfl⟩:=map_pair h
    have hv:=R a x _ hxa hs
    generalize hη:η a = v at hv
    obtain ⟨kt,e,hu⟩:=hu
    cases hv with
    | map _ b hb=>
      unfold St.map? at hes
      split at hes
      · rename_i ka va es' st' ho'
        simp only [Option.some.injEq] at hes
        subst hes
        obtain ⟨ents,clock,hh,_,hl,_⟩:=S.obj o' b _ ho' hb
        refine .same S (hex _ es'.length hη ?_) (.d _ _ (.int _ _))
        rw [← hl]
        simp [Builtin.len_,hty,run_underlying hu,goInt,getObj,Sem.run,hh]
      · cases hes
  · cases h
omit R in
theorem g_lenC {c:Call} (ho:o.op = .call c) (n:Nat) (hx:hop = .lenC n) (t:TypeId) (a:Operand) (hca:c.callee = .builtin .len) (hargs:c.args = #[a]) (hty:c.argTypes[0]? = some t)
    (hu:(∃ e,P.underlying t = some (.array n e)) ∨ ∃ p e,P.underlying t = some (.pointer p) ∧ P.underlying p = some (.array n e)):Good P gt η o H L w u H':=by
  subst hx
  simp only [stepOp,Option.some.injEq,Prod.mk.injEq] at h
  obtain ⟨rfl,rfl⟩:=h
  refine .same S (v:=.int .i64 n) ?_ (.d _ _ (.int _ _))
  rcases hu with ⟨e,hu⟩ | ⟨p,e,hu,hp⟩
  · simp [execOp,ho,resolve,hca,hargs,invoke,builtin,Builtin.len_,hty,run_underlying hu,goInt]
  · simp [execOp,ho,resolve,hca,hargs,invoke,builtin,Builtin.len_,hty,run_underlying hu,run_underlying hp,goInt]
omit S R h in
theorem evalMin_sound (mx:Bool):∀ (us:List HV) (vs:List Value) (k:IntKind) (x:Int) (r:HV),VRels L H.tips w us vs→evalMin mx x k us = some r →
    ∃ v,(vs.foldlM (if mx then Builtin.max2 else Builtin.min2) (.int k x)).run P w = .ok v w ∧ VRel L H.tips w r v
  | [],vs,k,x,r,hv,hr=>by
    cases hv
    simp only [evalMin,Option.some.injEq] at hr
    subst hr
    exact ⟨_,by simp,.d _ _ (.int _ _)⟩
  | .d (.int j y) :: us,vs,k,x,r,hv,hr=>by
    cases hv with
    | cons _ v _ vs h1 h2=>
      have hv:=h1.int_inv
      subst hv
      simp only [evalMin] at hr
      split at hr
      · rename_i hjk
        obtain ⟨v,hv1,hv2⟩:=evalMin_sound mx us vs k _ r h2 hr
        refine ⟨v,?_,hv2⟩
        rw [List.foldlM_cons]
        cases mx
        · simpa [Builtin.min2] using hv1
        · simpa [Builtin.max2] using hv1
      · cases hr
  | .d (.bool _) :: _,_,_,_,_,_,hr=>by simp [evalMin] at hr
  | .d (.str _) :: _,_,_,_,_,_,hr=>by simp [evalMin] at hr
  | .d (.sl _) :: _,_,_,_,_,_,hr=>by simp [evalMin] at hr
  | .d .nilp :: _,_,_,_,_,_,hr=>by simp [evalMin] at hr
  | .d .nilm :: _,_,_,_,_,_,hr=>by simp [evalMin] at hr
  | .d .nilf :: _,_,_,_,_,_,hr=>by simp [evalMin] at hr
  | .own _ _ :: _,_,_,_,_,_,hr=>by simp [evalMin] at hr
  | .ref _ _ :: _,_,_,_,_,_,hr=>by simp [evalMin] at hr
  | .row _ _ _ _ :: _,_,_,_,_,_,hr=>by simp [evalMin] at hr
  | .map _ :: _,_,_,_,_,_,hr=>by simp [evalMin] at hr
  | .iref _ :: _,_,_,_,_,_,hr=>by simp [evalMin] at hr
  | .fn _ _ _ :: _,_,_,_,_,_,hr=>by simp [evalMin] at hr
  | .agg _ :: _,_,_,_,_,_,hr=>by simp [evalMin] at hr
  | .tup _ :: _,_,_,_,_,_,hr=>by simp [evalMin] at hr
theorem g_minmax {c:Call} (ho:o.op = .call c) (mx:Bool) (xs:List HO) (hx:hop = .minmax mx xs) (hca:c.callee = .builtin (if mx then .max else .min)) (hargs:c.args.toList.mapM (cO gt) = some xs):Good P gt η o H L w u H':=by
  subst hx
  simp only [stepOp] at h
  split at h
  · rename_i k x r hm
    obtain ⟨q,hq,rfl,rfl⟩:=map_pair (f:=id) h
    have hv:=opnds_list R _ _ _ hargs hm
    cases hl:c.args.toList.map η with
    | nil=>rw [hl] at hv;cases hv
    | cons v0 vs=>
      rw [hl] at hv
      cases hv with
      | cons _ _ _ _ h1 h2=>
        have hv0:=h1.int_inv
        subst hv0
        obtain ⟨v,hv1,hv2⟩:=evalMin_sound (P:=P) mx r vs k x _ h2 hq
        refine .same S ?_ hv2
        cases mx
        · simp only [Bool.false_eq_true,if_false] at hca hv1
          simp [execOp,ho,resolve,hca,invoke,builtin,Builtin.min_,hl,hv1]
        · simp only [if_true] at hca hv1
          simp [execOp,ho,resolve,hca,invoke,builtin,Builtin.max_,hl,hv1]
  · cases h
end
end
end Am
namespace Am
open Go
theorem setAll_toList (off:Nat):∀ (vs:List Value) (k:Nat) (C:Array Value),off + k + vs.length ≤ C.size →
    ((vs.zipIdx k).foldl (fun cs (p:Value × Nat)=>cs.setIfInBounds (off + p.2) p.1) C).toList = C.toList.take (off + k) ++ vs ++ C.toList.drop (off + k + vs.length)
  | [],k,C,_=>by simp
  | v :: vs,k,C,h=>by
    simp only [List.length_cons] at h
    have ih:=setAll_toList off vs (k + 1) (C.setIfInBounds (off + k) v) (by simp;omega)
    simp only [List.zipIdx_cons,List.foldl_cons]
    rw [ih]
    have hlt:off + k < C.toList.length:=by simp;omega
    rw [Array.toList_setIfInBounds]
    have e1:(C.toList.set (off + k) v).take (off + (k + 1)) = C.toList.take (off + k) ++ [v]:=by
      rw [show off + (k + 1) = off + k + 1 from rfl,List.take_succ_eq_append_getElem (by simpa using hlt),List.take_set_of_le (Nat.le_refl _)]
      simp
    have e2:(C.toList.set (off + k) v).drop (off + (k + 1) + vs.length) = C.toList.drop (off + k + (v :: vs).length):=by
      rw [List.drop_set_of_lt (by omega)]
      simp only [List.length_cons]
      congr 1
      omega
    rw [e1,e2]
    simp
theorem fold_cells (off:Nat) (v C:Array Value) (h:off + v.size ≤ C.size) :
    (v.zipIdx.foldl (fun cs (p:Value × Nat)=>cs.setIfInBounds (off + p.2) p.1) C) = (C.toList.take off ++ v.toList ++ C.toList.drop (off + v.size)).toArray:=by
  apply Array.ext'
  rw [← Array.foldl_toList,Array.toList_zipIdx]
  have:=setAll_toList off v.toList 0 C (by simpa using h)
  simpa using this
section
variable {P:Program} {gt:Nat→Option (List D)} {L:Lay} {H H':St} {w:World} {η:Operand→Value} {ρ:HO→Option HV} {o:Oper} {u:HV} {hop:HOp} {call:CallT} {tips:List Nat}
theorem splice_rel {cs vs:List HV} {X Y:List Value} {off:Nat} (h:VRels L tips w cs X) (h':VRels L tips w vs Y):VRels L tips w (splice cs off vs) (X.take off ++ Y ++ X.drop (off + Y.length)):=by
  unfold splice
  rw [h'.length]
  exact ((h.take off).append h').append (h.drop _)
theorem fill_sound {place:Nat→Option (Nat × Nat)}:∀ (ps:List (Nat × Value)) (hs:List (Nat × Nat × HV)) (cs:List HV) (C:Array Value) (r:List HV),
    ps.length = hs.length→(∀ (k:Nat) (i:Nat) (v:Value) (q:Nat × Nat × HV),ps[k]? = some (i,v)→hs[k]? = some q→place i = some (q.1,q.2.1) ∧ VRel L tips w q.2.2 v) →
    VRels L tips w cs C.toList→fillParts cs hs = some r→∃ R,Instr.fill place C ps = some R ∧ VRels L tips w r R.toList
  | [],[],cs,C,r,_,_,hC,h=>by
    simp only [fillParts,Option.some.injEq] at h
    subst h
    exact ⟨C,rfl,hC⟩
  | (i,v) :: ps,(off,sz,q) :: hs,cs,C,r,hl,hp,hC,h=>by
    simp only [fillParts] at h
    split at h
    · rename_i hc
      obtain ⟨h1,h2⟩:=hp 0 i v (off,sz,q) rfl rfl
      simp only at h1 h2
      have hcl:=h2.cells.length
      have hCl:=hC.length
      have hsz:v.cells.size = sz:=by rw [← hc.1,hcl];simp
      have hle:off + v.cells.size ≤ C.size:=by rw [hsz];have:=hc.2;simp at hCl;omega
      have hnext:VRels L tips w (splice cs off q.cells) (C.toList.take off ++ v.cells.toList ++ C.toList.drop (off + v.cells.size)).toArray.toList:=by
        have:=splice_rel (off:=off) hC h2.cells
        simpa using this
      obtain ⟨R,hR1,hR2⟩:=fill_sound ps hs _ _ r (by simpa using hl) (fun k i v q hk hq=>hp (k + 1) i v q (by simpa using hk) (by simpa using hq)) hnext h
      refine ⟨R,?_,hR2⟩
      simp only [Instr.fill,h1]
      rw [if_neg (by simp [hsz];omega),fold_cells off _ _ hle]
      exact hR1
    · cases h
  | [],_ :: _,_,_,_,hl,_,_,_=>by simp at hl
  | _ :: _,[],_,_,_,hl,_,_,_=>by simp at hl
theorem zero_rel {t:TypeId} {z:List HV} (h:tZero P t = some z):∃ i v,P.info? t = some i ∧ i.zero = some v ∧ VRels L tips w z v.cells.toList:=by
  unfold tZero at h
  split at h
  · rename_i i hi
    split at h
    · rename_i v hv
      obtain ⟨q,hq,rfl⟩:=map_mk h
      exact ⟨i,v,hi,hv,(zVal_rel hq).cells⟩
    · cases h
  · cases h
theorem mapM_len {α β:Type} {f:α→Option β}:∀ {xs:List α} {ys:List β},xs.mapM f = some ys→ys.length = xs.length ∧ ∀ (k:Nat) (x:α),xs[k]? = some x→∃ y,ys[k]? = some y ∧ f x = some y
  | [],ys,h=>by rw [mapM_some_nil h];exact ⟨rfl,fun k x hk=>by simp at hk⟩
  | x :: xs,ys,h=>by
    obtain ⟨y,ys',h1,h2,rfl⟩:=mapM_some_cons h
    obtain ⟨h3,h4⟩:=mapM_len h2
    refine ⟨by simp [h3],fun k a hk=>?_⟩
    cases k with
    | zero=>simp at hk;subst hk;exact ⟨y,rfl,h1⟩
    | succ k=>simpa using h4 k a (by simpa using hk)
theorem run_zeroValue {t:TypeId} {i:TypeInfo} {v:Value} (hi:P.info? t = some i) (hz:i.zero = some v) (w:World):(zeroValue t).run P w = .ok v w:=by
  simp [zeroValue,typeInfo,hi,hz]
theorem run_places (fs:List Field) (h:∀ f ∈ fs,(P.info? f.type).isSome) (w:World) :
    (fs.mapM (fun f=>do pure (f.offset,← Go.sizeOf f.type):Field→Sem (Nat × Nat))).run P w = .ok (fs.map fun f=>(f.offset,((P.info? f.type).map (·.size)).getD 0)) w:=by
  induction fs with
  | nil=>simp
  | cons f fs ih=>
    obtain ⟨i,hi⟩:=Option.isSome_iff_exists.1 (h f (by simp))
    rw [List.mapM_cons]
    simp only [Sem.run_bind,run_sizeOf hi,Result.andThen_ok,Sem.run_pure]
    rw [ih fun x hx=>h x (by simp [hx])]
    simp [hi]
section
variable (S:Sim gt H L w) (R:Opnds gt L H.tips w η ρ) (h:stepOp call ρ H hop = some (u,H'))
include S R h
theorem g_build {t:TypeId} {ps:Array (Nat × Operand)} (ho:o.op = .build t ps) (hc:cOp P gt (.build t ps) = some hop):Good P gt η o H L w u H':=by
  simp only [cOp] at hc
  have main:∀ (z:List HV) (hs:List (Nat × Nat × HO)) (place:Nat→Option (Nat × Nat)),hop = .build z hs→tZero P t = some z→hs.length = ps.size →
      (∀ (k i:Nat) (x:Operand) (q:Nat × Nat × HO),ps.toList[k]? = some (i,x)→hs[k]? = some q→place i = some (q.1,q.2.1) ∧ cO gt x = some q.2.2) →
      (∀ (C:Array Value) (v:Value) (i:TypeInfo),P.info? t = some i→i.zero = some v→Instr.fill place v.cells (ps.toList.map fun p=>(p.1,η p.2)) = some C→(execOp η o).run P w = .ok (.value (.agg C)) w) →
      Good P gt η o H L w u H':=by
    intro z hs place hh hz hl hp hrun
    subst hh
    simp only [stepOp] at h
    split at h
    · rename_i vs hvs
      obtain ⟨cs,hcs,rfl,rfl⟩:=map_pair (f:=HV.agg) h
      obtain ⟨i,v,hi,hv,hzr⟩:=zero_rel (P:=P) (L:=L) (tips:=H'.tips) (w:=w) hz
      obtain ⟨hvl,hvk⟩:=mapM_len hvs
      obtain ⟨C,hC1,hC2⟩:=fill_sound (place:=place) (ps.toList.map fun p=>(p.1,η p.2)) vs z v.cells cs (by simp [hvl,hl]) (fun k i v q hk hq=>by
          rw [List.getElem?_map] at hk
          cases hpk:ps.toList[k]? with
          | none=>rw [hpk] at hk;cases hk
          | some px=>
            obtain ⟨j,x⟩:=px
            rw [hpk] at hk
            simp only [Option.map_some,Option.some.injEq,Prod.mk.injEq] at hk
            obtain ⟨rfl,rfl⟩:=hk
            have hlt:=lt_of_getElem? hpk
            have hlt':k < hs.length:=by rw [hl];simpa using hlt
            have hq':=List.getElem?_eq_getElem hlt'
            obtain ⟨h1,h2⟩:=hp k j x _ hpk hq'
            obtain ⟨y,hy1,hy2⟩:=hvk k _ hq'
            rw [hq] at hy1
            cases hy1
            obtain ⟨a,ha,rfl⟩:=map_mk hy2
            exact ⟨h1,R x _ a h2 ha⟩) hzr hcs
      exact .same S (hrun C v i hi hv hC1) (by have:=VRel.agg _ _ hC2;simpa using this)
    · cases h
  split at hc
  · rename_i fs z hu hz
    split at hc
    · cases hc
    · rename_i hall
      have hall':∀ f ∈ fs.toList,(P.info? f.type).isSome = true:=by
        have:(fs.toList.all fun f=>(P.info? f.type).isSome) = true:=by simpa only [Bool.not_eq_true',Bool.not_eq_false] using hall
        exact fun f hf=>List.all_eq_true.1 this f hf
      obtain ⟨hs,hhs,rfl⟩:=map_mk hc
      obtain ⟨hl,hk⟩:=mapM_len hhs
      refine main z hs (fun i=>(fs.toList.map fun f=>(f.offset,((P.info? f.type).map (·.size)).getD 0))[i]?) rfl hz (by simpa using hl) (fun k i x q hpk hqk=>?_) (fun C v i hi hv hC=>?_)
      · obtain ⟨y,hy1,hy2⟩:=hk k _ hpk
        rw [hqk] at hy1
        cases hy1
        split at hy2
        · rename_i f x' hf hx
          obtain ⟨ti,hti,rfl⟩:=map_mk hy2
          refine ⟨?_,hx⟩
          have hf':fs.toList[i]? = some f:=by simpa using hf
          simp [hf',hti]
        · cases hy2
      · have hz:=run_zeroValue hi hv w (P:=P)
        have hpl:=run_places (P:=P) fs.toList hall' w
        have hmm:(fs.mapM (fun f=>do pure (f.offset,← Go.sizeOf f.type):Field→Sem (Nat × Nat))).run P w = .ok (fs.toList.map fun f=>(f.offset,((P.info? f.type).map (·.size)).getD 0)).toArray w:=by
          rw [Array.mapM_eq_mapM_toList,Sem.run_map,hpl]
          rfl
        have hfill:Instr.fill (fun i=>(fs.toList.map fun f=>(f.offset,((P.info? f.type).map (·.size)).getD 0)).toArray[i]?) v.cells (ps.toList.map fun p=>(p.1,η p.2)) = some C:=by
          simpa using hC
        simp only [execOp,ho,Instr.build,Sem.run_bind,hz,Result.andThen_ok,run_underlying hu,hmm,Array.toList_map]
        rw [hfill]
        rfl
  · cases hc
end
end
end Am
namespace Am
open Go
theorem chunks_spec {sz:Nat}:∀ (n:Nat) (cs:List D),cs.length = n * sz→(chunks sz n cs).flatten = cs ∧ (chunks sz n cs).length = n ∧ ∀ r ∈ chunks sz n cs,r.length = sz
  | 0,cs,h=>by simp at h;subst h;simp [chunks]
  | n + 1,cs,h=>by
    rw [Nat.succ_mul] at h
    obtain ⟨h1,h2,h3⟩:=chunks_spec (sz:=sz) n (cs.drop sz) (by simp;omega)
    refine ⟨by simp [chunks,h1],by simp [chunks,h2],fun r hr=>?_⟩
    simp only [chunks,List.mem_cons] at hr
    rcases hr with rfl | hr
    · simp;omega
    · exact h3 r hr
section
variable {P:Program} {gt:Nat→Option (List D)} {L:Lay} {H H':St} {w:World} {η:Operand→Value} {ρ:HO→Option HV} {o:Oper} {u:HV} {hop:HOp} {call:CallT} {tips:List Nat}
def SliceOf (L:Lay) (w:World) (v:Value) (rows:List (List D)) (sz:Nat):Prop:=
  (∀ r ∈ rows,r.length = sz) ∧ ∃ a cap vals,v = .slice a rows.length cap ∧ rows.length ≤ cap ∧ DCells L.I w rows.flatten vals ∧
    (rows = [] ∨ ∃ b off,a = some ⟨b,off,none⟩ ∧ ∀ (j:Nat) (q:Value),vals[j]? = some q→w.cell? ⟨b,off + j,none⟩ = some q)
theorem sliceOf_drel {rows:List (List D)} {v:Value} {sz:Nat} (h:DRel L.I w (.sl rows) v) (ha:∀ r ∈ rows,r.length = sz):SliceOf L w v rows sz:=by
  rcases drel_sl.1 h with ⟨rfl,a,cap,rfl⟩ | ⟨b,off,cap,s,rfl,hcap,_,hcr⟩
  · exact ⟨ha,a,cap,[],rfl,Nat.zero_le _,⟨rfl,fun k x v hx=>by simp at hx⟩,.inl rfl⟩
  · obtain ⟨cell,h1,h2⟩:=hcr.fn
    refine ⟨ha,_,cap,(List.range rows.flatten.length).map cell,rfl,hcap,⟨by simp,fun k x v hx hv=>?_⟩,.inr ⟨b,off,rfl,fun j q hj=>?_⟩⟩
    · have hk:=lt_of_getElem? hx
      simp only [List.getElem?_map,List.getElem?_range hk,Option.map_some,Option.some.injEq] at hv
      subst hv
      exact h2 k x hx
    · by_cases hk:j < rows.flatten.length
      · simp only [List.getElem?_map,List.getElem?_range hk,Option.map_some,Option.some.injEq] at hj
        subst hj
        exact h1 j _ (List.getElem?_eq_getElem hk)
      · rw [List.getElem?_eq_none (by simpa using hk)] at hj;cases hj
theorem toDs_length:∀ {us:List HV} {xs:List D},toDs us = some xs→xs.length = us.length
  | [],xs,h=>by simp only [toDs,Option.some.injEq] at h;subst h;rfl
  | u :: us,xs,h=>by
    simp only [toDs] at h
    cases h1:u.toD with
    | none=>simp [h1] at h
    | some y=>cases h2:toDs us with
      | none=>simp [h1,h2] at h
      | some ys=>simp only [h1,h2,Option.some.injEq] at h;subst h;simp [toDs_length h2]
theorem Sim.cells (S:Sim gt H L w) {o b:Nat} {c:List HV} (hc:H.cells? o = some c) (hb:L.φ[o]? = some (some b)) :
    ∃ vs elem,RowAt w b vs elem ∧ VRels L H.tips w c vs.toList:=by
  unfold St.cells? at hc
  split at hc
  · rename_i c' ho
    simp only [Option.some.injEq] at hc
    subst hc
    exact S.obj o b _ ho hb
  · cases hc
theorem rows_sound (S:Sim gt H L w) {x:HV} {v:Value} {sz:Nat} {rows:List (List D)} (hv:VRel L H.tips w x v) (h:H.rows x sz = some rows) :
    (∃ s,x = .d (.str s) ∧ v = .string ⟨s.toArray⟩ ∧ sz = 1 ∧ rows = s.map fun b=>[D.int .u8 b.toNat]) ∨ SliceOf L w v rows sz:=by
  unfold St.rows at h
  split at h
  · rename_i rs
    split at h
    · rename_i hall
      simp only [Option.some.injEq] at h
      subst h
      cases hv with | d _ _ hd=>exact .inr (sliceOf_drel hd (by simpa using hall))
    · cases h
  · rename_i rs t
    split at h
    · rename_i hall
      simp only [Option.some.injEq] at h
      subst h
      cases hv with | own _ _ _ hd _=>exact .inr (sliceOf_drel hd (by simpa using hall))
    · cases h
  · rename_i s
    split at h
    · rename_i h1
      simp only [Option.some.injEq] at h
      subst h
      exact .inl ⟨s,rfl,hv.str_inv,h1,rfl⟩
    · cases h
  · rename_i o off len s
    split at h
    · rename_i hs
      subst hs
      split at h
      · rename_i c hc
        split at h
        · rename_i hle
          obtain ⟨ds,hds,rfl⟩:=map_mk h
          cases hv with
          | row _ _ _ _ b cap hb hcap=>
            obtain ⟨vs,elem,hh,hr⟩:=S.cells hc hb
            have hl:=hr.length
            have hdl:=toDs_length hds
            have hdl':ds.length = len * s:=by rw [hdl];simp;omega
            obtain ⟨h1,h2,h3⟩:=chunks_spec len ds hdl'
            have hsub:=(hr.drop off).take (len * s)
            obtain ⟨e1,e2⟩:=hsub.toDs hds
            refine .inr ⟨h3,some ⟨b,off,none⟩,cap,(vs.toList.drop off).take (len * s),by rw [h2],by rw [h2];exact hcap,⟨by rw [h1];exact e1,fun k x v hx hv=>?_⟩,?_⟩
            · rw [h1] at hx;exact e2 k x v hx hv
            · refine .inr ⟨b,off,rfl,fun j q hj=>?_⟩
              rw [List.getElem?_take] at hj
              split at hj
              · rw [List.getElem?_drop] at hj
                rw [hh.cell]
                simpa using hj
              · cases hj
        · cases h
      · cases h
    · cases h
  · cases h
theorem bytesOf_sound {I:Nat→Nat}:∀ {rows:List (List D)} {s:List UInt8} {vals:List Value},bytesOf rows = some s→DCells I w rows.flatten vals →
    ∃ ns:List Int,vals = ns.map (Value.int .u8) ∧ s = ns.map (fun n=>UInt8.ofNat n.toNat)
  | [],s,vals,h,hd=>by
    simp only [bytesOf,Option.some.injEq] at h
    subst h
    have:vals = []:=List.length_eq_zero_iff.1 hd.1.symm
    subst this
    exact ⟨[],rfl,rfl⟩
  | [.int .u8 n] :: rows,s,vals,h,hd=>by
    simp only [bytesOf] at h
    obtain ⟨s',hs',rfl⟩:=map_mk h
    cases vals with
    | nil=>have:=hd.1;simp at this
    | cons v vals=>
      obtain ⟨ns,e1,e2⟩:=bytesOf_sound (I:=I) (vals:=vals) hs' ⟨by have:=hd.1;simpa using this,fun k x q hx hq=>hd.2 (k + 1) x q (by simpa using hx) (by simpa using hq)⟩
      have h0:=hd.2 0 (.int .u8 n) v rfl rfl
      cases h0
      exact ⟨n :: ns,by rw [e1];rfl,by rw [e2];rfl⟩
  | [] :: _,_,_,h,_=>by simp [bytesOf] at h
  | [.bool _] :: _,_,_,h,_=>by simp [bytesOf] at h
  | [.str _] :: _,_,_,h,_=>by simp [bytesOf] at h
  | [.sl _] :: _,_,_,h,_=>by simp [bytesOf] at h
  | [.nilp] :: _,_,_,h,_=>by simp [bytesOf] at h
  | [.nilm] :: _,_,_,h,_=>by simp [bytesOf] at h
  | [.nilf] :: _,_,_,h,_=>by simp [bytesOf] at h
  | (_ :: _ :: _) :: _,_,_,h,_=>by simp [bytesOf] at h
  | [.int .i8 n] :: _,_,_,h,_=>by simp [bytesOf] at h
  | [.int .i16 n] :: _,_,_,h,_=>by simp [bytesOf] at h
  | [.int .i32 n] :: _,_,_,h,_=>by simp [bytesOf] at h
  | [.int .i64 n] :: _,_,_,h,_=>by simp [bytesOf] at h
  | [.int .u16 n] :: _,_,_,h,_=>by simp [bytesOf] at h
  | [.int .u32 n] :: _,_,_,h,_=>by simp [bytesOf] at h
  | [.int .u64 n] :: _,_,_,h,_=>by simp [bytesOf] at h
theorem foldl_push (ns:List Int) (acc:List UInt8):(ns.foldl (fun r n=>ByteArray.push r (UInt8.ofNat n.toNat)) ⟨acc.toArray⟩) = ⟨(acc ++ ns.map fun n=>UInt8.ofNat n.toNat).toArray⟩:=by
  induction ns generalizing acc with
  | nil=>simp
  | cons n ns ih=>
    have:ByteArray.push ⟨acc.toArray⟩ (UInt8.ofNat n.toNat) = ⟨(acc ++ [UInt8.ofNat n.toNat]).toArray⟩:=by simp [ByteArray.push]
    rw [List.foldl_cons,this,ih]
    simp
section
variable (S:Sim gt H L w) (R:Opnds gt L H.tips w η ρ) (h:stepOp call ρ H hop = some (u,H'))
include S R h
theorem g_convBS {s t e:TypeId} {x:Operand} {y:HO} (ho:o.op = .convert s t x) (hx:cO gt x = some y) (hh:hop = .convBS y)
    (h1:P.underlying s = some (.slice e)) (h2:P.underlying e = some (.int .u8)) (h3:P.underlying t = some .string):Good P gt η o H L w u H':=by
  subst hh
  simp only [stepOp] at h
  split at h
  · cases h
  · rename_i a hns ha
    split at h
    · rename_i rows hr
      obtain ⟨b,hb,rfl,rfl⟩:=map_pair (f:=fun b=>HV.d (.str b)) h
      have hv:=R x y _ hx ha
      rcases rows_sound S hv hr with ⟨q,rfl,hq,_,_⟩ | ⟨hall,p,cap,vals,hp,hcap,hdc,hcell⟩
      · exact absurd rfl (hns q)
      · obtain ⟨ns,e1,e2⟩:=bytesOf_sound hb hdc
        have hrun:(convert s t (η x)).run P w = .ok (.string ⟨b.toArray⟩) w:=by
          rw [hp,run_convert_bytes_string w s t e _ _ _ h1 h2 h3]
          rcases hcell with rfl | ⟨bb,off,rfl,hc⟩
          · simp only [bytesOf,Option.some.injEq] at hb
            subst hb
            cases p with
            | none=>simp [Conv.bytesToString];rfl
            | some p=>simp [Conv.bytesToString,loadCells,loadCellsFrom];rfl
          · have hfl:=flatten_len hall
            have hl:rows.length = vals.length:=by rw [← hdc.1,hfl];omega
            have hlc:=run_loadCells_list (P:=P) w ⟨bb,off,none⟩ vals (fun j v hv=>by rw [Addr.add_lit];exact hc j v hv)
            rw [← hl,e1] at hlc
            rw [run_bytesToString w _ _ _ ns hlc]
            have:=foldl_push ns []
            simp only [List.nil_append] at this
            rw [e2]
            exact congrArg (fun z=>Result.ok (Value.string z) w) this
        exact .same S (by simp [execOp,ho,hrun]) (.d _ _ (.str _))
    · cases h
  · cases h
end
end
end Am
