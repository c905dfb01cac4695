/- A part of the proof of BuildAgain: no condition of its own. Whence: AmOps9, AmInv. -/
import Derived.Test.YtgepkelfblhpnaaGreatDoorA08
set_option linter.all false
namespace Am
open Go
section
variable {P:Program} {gt:Nat→Option (List D)} {L L':Lay} {H H':St} {w w':World} {η:Operand→Value} {ρ:HO→Option HV} {o:Oper} {u:HV} {hop:HOp} {call:CallT} {tips:List Nat}
structure Frost (w w':World):Prop where
  size:w'.heap.size = w.heap.size
  at_:∀ b:Nat,w'.heap[b]? = w.heap[b]? ∨ ∃ (cs:Array Value) (e:TypeId) (fz fz':Nat × Nat),w.heap[b]? = some (.cells cs e fz) ∧ w'.heap[b]? = some (.cells cs e fz') ∧ ((fz = (0,0) ∨ cs.size ≤ fz.1)→(fz' = (0,0) ∨ cs.size ≤ fz'.1))
  tape:w'.tape = w.tape
  os:w'.os = w.os
  output:w'.output = w.output
  drawn:w.drawn ≤ w'.drawn
theorem Frost.cell (f:Frost w w') (b off:Nat):w'.cell? ⟨b,off,none⟩ = w.cell? ⟨b,off,none⟩:=by
  rcases f.at_ b with h | ⟨cs,e,fz,fz',h1,h2,_⟩
  · exact cell_heap h off
  · rw [cell_of_row w b off cs e fz h1,cell_of_row w' b off cs e fz' h2]
theorem Frost.row (f:Frost w w') {b:Nat} {cs:Array Value} {e:TypeId} (h:RowAt w b cs e):RowAt w' b cs e:=by
  obtain ⟨fz0,h0,hz⟩:=h
  rcases f.at_ b with h | ⟨cs',e',fz,fz',h1,h2,h3⟩
  · exact ⟨fz0,by rw [h];exact h0,hz⟩
  · rw [h0] at h1
    cases h1
    exact ⟨fz',h2,h3 hz⟩
theorem Frost.ext (f:Frost w w') (n:Nat) (L:Lay) (tips:List Nat) (ho:∀ b,b < L.base→w'.heap[b]? = w.heap[b]?):Ext n L tips w L tips w':=
  ⟨⟨fun _=>Nat.le_refl _,fun b off _=>f.cell b off⟩,fun _ _=>rfl,fun _ k h=>⟨k,h,Nat.le_refl _,fun _=>rfl⟩,Nat.le_of_eq f.size.symm,f.tape,f.os,f.output,f.drawn,ho,fun _ _=>rfl,rfl⟩
theorem Frost.obj (f:Frost w w') (ho:∀ b,b < L.base→w'.heap[b]? = w.heap[b]?) {b:Nat} {x:Obj} (h:ObjRel L tips w b x):ObjRel L tips w' b x:=by
  have st:=(f.ext L.φ.length L tips ho).stays
  cases x with
  | cells c=>obtain ⟨vs,elem,h1,h2⟩:=h;exact ⟨vs,elem,f.row h1,h2.move st⟩
  | map ka va es bs=>
    have h':=h
    obtain ⟨ents,clock,h1,_⟩:=h
    refine ObjRel.move st ?_ h'
    rcases f.at_ b with h | ⟨cs',e',fz,fz',h2,_⟩
    · exact h
    · rw [h1] at h2;cases h2
  | iter t pos=>
    refine ObjRel.move st ?_ h
    rcases f.at_ b with h' | ⟨cs',e',fz,fz',h2,_⟩
    · exact h'
    · have h':w.heap[b]? = some (.stringIter ⟨t.toArray⟩ pos):=h
      rw [h'] at h2;cases h2
  | dead=>trivial
theorem Sim.frost (S:Sim gt H L w) (f:Frost w w') (ho:∀ b,b < L.base→w'.heap[b]? = w.heap[b]?):Sim gt H L w' where
  glob:=fun g cs h=>(S.glob g cs h).grow (f.ext 0 L H.tips ho).grow
  nobj:=S.nobj
  ntip:=S.ntip
  obj:=fun o b x h1 h2=>f.obj ho (S.obj o b x h1 h2)
  pend:=S.pend
  tip:=fun t n b sz cap h1 h2=>by
    obtain ⟨h3,h4,cs,elem,h5,h6⟩:=S.tip t n b sz cap h1 h2
    exact ⟨h3,h4,cs,elem,f.row h5,h6⟩
  tip0:=S.tip0
  inj:=S.inj
  tinj:=S.tinj
  disj:=S.disj
  objI:=fun o b h=>by rw [f.size];exact S.objI o b h
  fresh:=fun b h=>S.fresh b (by rw [f.size] at h;exact h)
  young:=S.young
  baseLe:=by rw [f.size];exact S.baseLe
theorem Frost.freeze {b n:Nat} {cs:Array Value} {e:TypeId} {fz:Nat × Nat} (h:w.heap[b]? = some (.cells cs e fz)) (hn:n = cs.size):Frost w (w.freeze ⟨b,n,none⟩ 1) where
  size:=by simp [World.freeze]
  at_:=fun c=>by
    unfold World.freeze
    rw [if_neg (by decide)]
    simp only [Array.getElem?_modify]
    by_cases hc:b = c
    · subst hc
      rw [if_pos rfl,h]
      refine .inr ⟨cs,e,fz,_,rfl,rfl,?_⟩
      rintro (rfl | hz)
      · right;simp [hn]
      · right
        split
        · simp [hn]
        · simp only [Nat.le_min]
          exact ⟨hz,by omega⟩
    · rw [if_neg hc]
      exact .inl rfl
  tape:=by unfold World.freeze;split <;> rfl
  os:=by unfold World.freeze;split <;> rfl
  output:=by unfold World.freeze;split <;> rfl
  drawn:=by unfold World.freeze;split <;> exact Nat.le_refl _
theorem cells_of_cell {b off:Nat} {v:Value} (h:w.cell? ⟨b,off,none⟩ = some v):∃ cs e fz,w.heap[b]? = some (.cells cs e fz):=by
  unfold World.cell? at h
  split at h
  · rename_i h';exact ⟨_,_,_,h'⟩
  all_goals simp at h
section
variable (S:Sim gt H L w) (R:Opnds gt L H.tips w η ρ) (h:stepOp call ρ H hop = some (u,H'))
include S R h
theorem g_convSS {s t e:TypeId} {x:Operand} {y:HO} (ho:o.op = .convert s t x) (hx:cO gt x = some y) (hh:hop = .convSS y)
    (h1:P.underlying s = some (.slice e)) (h3:P.underlying e = some (.int .u8)) (hst:s = t):Good P gt η o H L w u H':=by
  subst hh
  subst hst
  have main:∀ (a:D) (r:List D) (rs:List (List D)),DRel L.I w (.sl ((a :: r) :: rs)) (η x)→OwnOk L H.tips ((a :: r) :: rs).length (η x) .exact→VRel L H.tips w u (η x)→H' = H→Good P gt η o H L w u H':=by
    rintro a r rs hd hok hv rfl
    rcases drel_sl.1 hd with ⟨h0,_⟩ | ⟨b,off,cap,sz,hη,hcap,hall,hcr⟩
    · cases h0
    · have hblk:∃ cs el fz,w.heap[b]? = some (.cells cs el fz):=by
        obtain ⟨v,hv,_⟩:=hcr.2 0 a rfl
        exact cells_of_cell hv
      obtain ⟨cs,el,fz,hb⟩:=hblk
      have fr:=Frost.freeze (n:=cs.size) hb rfl
      have hyb:L.base ≤ b:=by
        obtain ⟨p,h1,h2⟩:=hok
        rw [hη] at h1
        simp only [Value.slice.injEq] at h1
        exact h2 _ h1.1.symm
      have hold:∀ c,c < L.base→(w.freeze ⟨b,cs.size,none⟩ 1).heap[c]? = w.heap[c]?:=fun c hc=>by
        unfold World.freeze
        rw [if_neg (by decide)]
        simp only [Array.getElem?_modify]
        rw [if_neg (by omega)]
      refine ⟨.value (η x),η x,_,L,?_,.inl rfl,fr.ext _ _ _ hold,S.frost fr hold,hv.move (fr.ext _ _ _ hold).stays⟩
      have hsh:w.shape? b = some (el,cs.size):=by simp [World.shape?,hb]
      rw [hη]
      simp [execOp,ho,hη,convert,run_underlying h1,run_underlying h3,markStringish,hsh]
  simp only [stepOp] at h
  split at h
  · rename_i a r rs hv
    simp only [Option.some.injEq,Prod.mk.injEq] at h
    obtain ⟨rfl,rfl⟩:=h
    have vx:=R x y _ hx hv
    have h2:=vx
    cases h2 with | own _ _ _ hd hok=>exact main a r rs hd hok vx rfl
  · cases h
theorem g_conv {s t:TypeId} {x:Operand} (ho:o.op = .convert s t x) (hc:cOp P gt (.convert s t x) = some hop):Good P gt η o H L w u H':=by
  by_cases h1:∃ y,hop = .convSB y
  · obtain ⟨y,rfl⟩:=h1
    simp only [cOp] at hc
    split at hc
    · cases hc
    · split at hc <;> cases hc
    · rename_i e y h1 h2 h3
      split at hc <;> simp only [Option.some.injEq,HOp.convSB.injEq,reduceCtorEq] at hc
      subst hc
      rename_i he
      exact g_convSB S R h ho h3 rfl h1 h2 he
    · split at hc
      · split at hc <;> cases hc
      · cases hc
    · cases hc
  by_cases h2:∃ y,hop = .convBS y
  · obtain ⟨y,rfl⟩:=h2
    simp only [cOp] at hc
    split at hc
    · cases hc
    · rename_i e y q1 q2 q3
      split at hc <;> simp only [Option.some.injEq,HOp.convBS.injEq,reduceCtorEq] at hc
      subst hc
      rename_i he
      exact g_convBS S R h ho q3 rfl q1 he q2
    · split at hc <;> cases hc
    · split at hc
      · split at hc <;> cases hc
      · cases hc
    · cases hc
  by_cases h3:∃ y,hop = .convSS y
  · obtain ⟨y,rfl⟩:=h3
    simp only [cOp] at hc
    split at hc
    · cases hc
    · split at hc <;> cases hc
    · split at hc <;> cases hc
    · rename_i e e' y q1 q2 q3
      split at hc
      · rename_i he
        split at hc
        · rename_i hst
          simp only [Option.some.injEq,HOp.convSS.injEq] at hc
          subst hc
          exact g_convSS S R h ho q3 rfl q1 he hst
        · cases hc
      · cases hc
    · cases hc
  · exact g_convert S R h ho hc (fun y e=>h1 ⟨y,e⟩) (fun y e=>h2 ⟨y,e⟩) (fun y e=>h3 ⟨y,e⟩)
omit S R h in
theorem list_one {α β:Type} {f:α→Option β} {a:Array α} {y:β} (h:a.toList.mapM f = some [y]):∃ x,a = #[x] ∧ f x = some y:=by
  obtain ⟨l⟩:=a
  cases l with
  | nil=>simp at h
  | cons x l=>
    cases l with
    | nil=>
      obtain ⟨z,zs,h1,h2,h3⟩:=mapM_some_cons h
      cases h3
      exact ⟨x,rfl,h1⟩
    | cons x' l=>
      obtain ⟨z,zs,h1,h2,h3⟩:=mapM_some_cons h
      obtain ⟨z',zs',h4,h5,h6⟩:=mapM_some_cons h2
      subst h6
      cases h3
omit S R h in
theorem list_two {α β:Type} {f:α→Option β} {a:Array α} {y z:β} (h:a.toList.mapM f = some [y,z]):∃ x x',a = #[x,x'] ∧ f x = some y ∧ f x' = some z:=by
  obtain ⟨l⟩:=a
  cases l with
  | nil=>simp at h
  | cons x l=>
    obtain ⟨z1,zs,h1,h2,h3⟩:=mapM_some_cons h
    cases l with
    | nil=>
      have:=mapM_some_nil h2
      subst this
      cases h3
    | cons x' l=>
      obtain ⟨z',zs',h4,h5,h6⟩:=mapM_some_cons h2
      cases l with
      | nil=>
        have:=mapM_some_nil h5
        subst this
        subst h6
        cases h3
        exact ⟨x,x',rfl,h1,h4⟩
      | cons x'' l=>
        obtain ⟨z'',zs'',h7,h8,h9⟩:=mapM_some_cons h5
        subst h9
        subst h6
        cases h3
theorem g_builtin {c:Call} (ho:o.op = .call c) {b:Builtin} (hb:c.callee = .builtin b) (hc:cCall P gt c = some hop):Good P gt η o H L w u H':=by
  unfold cCall at hc
  rw [hb] at hc
  simp only at hc
  split at hc
  · rename_i x t ts hx ht
    obtain ⟨a,ha,hxa⟩:=list_one hx
    have ht0:c.argTypes[0]? = some t:=by
      have:c.argTypes.toList[0]? = some t:=by rw [ht];rfl
      simpa using this
    split at hc
    · simp only [Option.some.injEq] at hc
      rename_i hu
      exact g_lenC S h ho _ hc.symm t a hb ha ht0 (.inl ⟨_,hu⟩)
    · rename_i arr hu
      split at hc
      · simp only [Option.some.injEq] at hc
        rename_i hp
        exact g_lenC S h ho _ hc.symm t a hb ha ht0 (.inr ⟨_,_,hu,hp⟩)
      · cases hc
    · simp only [Option.some.injEq] at hc
      rename_i hu
      exact g_len S R h ho .s x hc.symm t a hb ha ht0 hxa hu
    · simp only [Option.some.injEq] at hc
      rename_i hu
      exact g_len S R h ho .i x hc.symm t a hb ha ht0 hxa ⟨_,hu⟩
    · simp only [Option.some.injEq] at hc
      rename_i hu
      exact g_len S R h ho .b x hc.symm t a hb ha ht0 hxa ⟨_,_,hu⟩
    · cases hc
  · rename_i x y s t hx ht
    obtain ⟨p,q,ha,hp,hq⟩:=list_two hx
    split at hc
    · rename_i hst
      subst hst
      split at hc
      · rename_i e hu
        split at hc
        · rename_i sz i z h1 h2 h3
          split at hc
          · rename_i hcond
            simp only [Option.some.injEq] at hc
            exact g_append S R h ho hb ha (by
              have:c.argTypes = #[s,s]:=by
                apply Array.ext'
                rw [ht]
              exact this) hu h1 h2 h3 hcond.1 hcond.2.2 hp hq hc.symm
          · cases hc
        · cases hc
      · cases hc
    · cases hc
  · rename_i x y s ts hx ht
    obtain ⟨p,q,ha,hp,hq⟩:=list_two hx
    have ht0:c.argTypes[0]? = some s:=by
      have:c.argTypes.toList[0]? = some s:=by rw [ht];rfl
      simpa using this
    split at hc
    · rename_i e hu
      obtain ⟨sz,hsz,rfl⟩:=map_mk hc
      exact g_copy S R h ho hb ha ht0 hu hsz hp hq rfl
    · cases hc
  · rename_i x y s ts hx ht
    obtain ⟨p,q,ha,hp,hq⟩:=list_two hx
    have ht0:c.argTypes[0]? = some s:=by
      have:c.argTypes.toList[0]? = some s:=by rw [ht];rfl
      simpa using this
    split at hc
    · rename_i k v hu
      split at hc
      · rename_i a n h1 h2
        simp only [Option.some.injEq] at hc
        exact g_delete S R h ho hb ha ht0 hu h1 h2 hp hq hc.symm
      · cases hc
    · cases hc
  · rename_i xs hx
    simp only [Option.some.injEq] at hc
    exact g_minmax S R h ho false xs hc.symm hb hx
  · rename_i xs hx
    simp only [Option.some.injEq] at hc
    exact g_minmax S R h ho true xs hc.symm hb hx
  · cases hc
def HOp.isCall:HOp→Bool
  | .callF .. | .callV ..=>true
  | _=>false
theorem good_op (hc:cOp P gt o.op = some hop) (hn:hop.isCall = false):Good P gt η o H L w u H':=by
  cases ho:o.op <;> rw [ho] at hc
  case move=>exact g_move S R h (.inl ho) (by simpa only [cOp] using hc)
  case assign=>exact g_move S R h (.inr ho) (by simpa only [cOp] using hc)
  case pick=>exact g_pick S R h ho hc
  case alloc=>exact g_alloc S h ho (by simpa only [cOp] using hc)
  case box=>exact g_box S R h ho hc
  case build=>exact g_build S R h ho hc
  case buildSlice=>exact g_buildSlice S R h ho hc
  case load=>exact g_load S R h ho hc
  case store=>exact g_store S R h ho hc
  case nilCheck=>exact g_nilCheck S R h ho (by simpa only [cOp] using hc)
  case binOp=>exact g_binOp S R h ho hc
  case unOp=>exact g_unOp S R h ho (by simpa only [cOp] using hc)
  case convert=>exact g_conv S R h ho hc
  case makeFunc f a b=>
    cases f with
    | func f=>exact g_makeFunc S R h ho hc
    | _=>simp [cOp] at hc
  case makeMap=>exact g_makeMap S R h ho hc
  case makeSlice=>exact g_makeSlice S R h ho hc
  case slice t x lo hi mx=>
    cases mx with
    | none=>exact g_slice S R h ho hc
    | some _=>simp [cOp] at hc
  case fieldAddr=>exact g_fieldAddr S R h ho hc
  case field=>exact g_field S R h ho hc
  case indexAddr=>exact g_indexAddr S R h ho hc
  case index=>exact g_index S R h ho hc
  case lookup=>exact g_lookup S R h ho hc
  case mapUpdate=>exact g_mapUpdate S R h ho hc
  case mapEntry=>exact g_mapEntry S R h ho hc
  case entryStore=>exact g_entryStore S R h ho hc
  case range=>exact g_range S R h ho hc
  case next it b=>
    cases b with
    | true=>exact g_nextStr S R h ho (by simpa only [cOp] using hc)
    | false=>simp [cOp] at hc
  case extract=>exact g_extract S R h ho (by simpa only [cOp] using hc)
  case call c=>
    simp only [cOp] at hc
    cases hcal:c.callee with
    | builtin b=>exact g_builtin S R h ho hcal hc
    | invoke r n=>simp [cCall,hcal] at hc
    | value x=>
      exfalso
      unfold cCall at hc
      rw [hcal] at hc
      cases x <;> simp only at hc <;> split at hc <;> simp only [Option.some.injEq,reduceCtorEq] at hc <;> subst hc <;> cases hn
  all_goals simp [cOp] at hc
end
end
end Am
namespace Am
open Go
mutual
def Und (no nt:Nat):HV→Prop
  | .d _=>True
  | .own _ .exact=>True
  | .own _ (.tok t _)=>t < nt
  | .ref o _=>o < no
  | .row o _ _ _=>o < no
  | .map o=>o < no
  | .iref _=>True
  | .fn _ a b=>Unds no nt a ∧ Unds no nt b
  | .agg cs=>Unds no nt cs
  | .tup vs=>Unds no nt vs
def Unds (no nt:Nat):List HV→Prop
  | []=>True
  | v :: vs=>Und no nt v ∧ Unds no nt vs
end
theorem unds_iff {no nt:Nat}:∀ {vs:List HV},Unds no nt vs ↔ ∀ v ∈ vs,Und no nt v
  | []=>by simp [Unds]
  | v :: vs=>by simp [Unds,unds_iff]
mutual
theorem Und.mono {no nt no' nt':Nat} (h1:no ≤ no') (h2:nt ≤ nt'):∀ {v:HV},Und no nt v→Und no' nt' v
  | .d _,_=>by trivial
  | .own _ .exact,_=>by trivial
  | .own _ (.tok t _),h=>Nat.lt_of_lt_of_le (show t < nt from h) h2
  | .ref o _,h=>Nat.lt_of_lt_of_le (show o < no from h) h1
  | .row o _ _ _,h=>Nat.lt_of_lt_of_le (show o < no from h) h1
  | .map o,h=>Nat.lt_of_lt_of_le (show o < no from h) h1
  | .iref _,_=>by trivial
  | .fn _ _ _,h=>⟨Unds.mono h1 h2 h.1,Unds.mono h1 h2 h.2⟩
  | .agg _,h=>Unds.mono h1 h2 (show Unds _ _ _ from h)
  | .tup _,h=>Unds.mono h1 h2 (show Unds _ _ _ from h)
theorem Unds.mono {no nt no' nt':Nat} (h1:no ≤ no') (h2:nt ≤ nt'):∀ {vs:List HV},Unds no nt vs→Unds no' nt' vs
  | [],_=>by trivial
  | _ :: _,h=>⟨Und.mono h1 h2 h.1,Unds.mono h1 h2 h.2⟩
end
theorem und_tight {no nt:Nat} {v:HV} (h:v.loose1 = false):Und no nt v:=by
  cases v <;> simp only [HV.loose1,reduceCtorEq] at h <;> try trivial
  rename_i rows t
  cases t
  · trivial
  · simp at h
theorem und_under1 {no nt:Nat} {v:HV} (h:v.under1 no nt = true):Und no nt v:=by
  cases v <;> simp only [HV.under1,reduceCtorEq,decide_eq_true_eq] at h <;> try trivial
  · rename_i rows t
    cases t
    · trivial
    · simpa [HV.under1,Und] using h
  · rename_i f first cap
    simp only [Bool.and_eq_true,List.isEmpty_iff,List.all_eq_true] at h
    obtain ⟨rfl,h⟩:=h
    refine ⟨trivial,unds_iff.2 fun v hv=>?_⟩
    have:=h v hv
    split at this
    · simpa [Und] using this
    · cases this
theorem und_under {no nt:Nat} {v:HV} (h:v.under no nt = true):Und no nt v:=by
  cases v <;> simp only [HV.under] at h <;> try exact und_under1 h
  · rename_i cs
    exact unds_iff.2 fun v hv=>und_under1 (List.all_eq_true.1 h v hv)
  · rename_i vs
    cases vs with
    | nil=>trivial
    | cons=>simp [HV.under1] at h
theorem und_loose {no nt:Nat} {v:HV} (h:v.loose = false):Und no nt v:=by
  cases v <;> simp only [HV.loose] at h <;> try exact und_tight h
  · rename_i cs
    refine unds_iff.2 fun v hv=>und_tight ?_
    simp only [List.any_eq_false] at h
    simpa using h v hv
  · rename_i vs
    cases vs with
    | nil=>trivial
    | cons=>simp [HV.loose1] at h
theorem lowOk_min (n:Nat) (a b:Option Nat):lowOk n (minLow a b) = (lowOk n a && lowOk n b):=by
  cases a <;> cases b <;> simp [lowOk,minLow,Nat.le_min]
def Clean (no nt:Nat) (H:St):Prop:=
  lowOk no H.low = true→∀ (o:Nat) (c:List HV),o < no→H.objs[o]? = some (.cells c)→Unds no nt c
structure Keeps (H H':St):Prop where
  objs:H.objs.length ≤ H'.objs.length
  tips:H.tips.length ≤ H'.tips.length
  clean:∀ no nt,no ≤ H.objs.length→nt ≤ H.tips.length→Clean no nt H→Clean no nt H'
theorem Keeps.refl (H:St):Keeps H H:=⟨Nat.le_refl _,Nat.le_refl _,fun _ _ _ _ h=>h⟩
theorem Keeps.trans {H H' H'':St} (h:Keeps H H') (h':Keeps H' H''):Keeps H H'':=
  ⟨Nat.le_trans h.objs h'.objs,Nat.le_trans h.tips h'.tips,fun no nt h1 h2 h3=>h'.clean no nt (Nat.le_trans h1 h.objs) (Nat.le_trans h2 h.tips) (h.clean no nt h1 h2 h3)⟩
theorem Keeps.of {H H':St} (h1:H.objs.length ≤ H'.objs.length) (h2:H.tips.length ≤ H'.tips.length) (hl:H'.low = H.low)
    (h:∀ (o:Nat) (c:List HV),o < H.objs.length→H'.objs[o]? = some (.cells c)→H.objs[o]? = some (.cells c)):Keeps H H':=
  ⟨h1,h2,fun no nt hno _ hc hlow o c ho hoc=>hc (by rw [← hl];exact hlow) o c ho (h o c (by omega) hoc)⟩
theorem Keeps.addTips (H:St) (t:List Nat) (h:H.tips.length ≤ t.length):Keeps H { H with tips:=t }:=.of (Nat.le_refl _) h rfl fun _ _ _ h=>h
theorem Keeps.alloc (H:St) (x:Obj):Keeps H (H.alloc x):=
  .of (by simp [St.alloc]) (Nat.le_refl _) rfl fun o c ho h=>by simpa [St.alloc,List.getElem?_append_left ho] using h
theorem Keeps.setObj (H:St) (i:Nat) (x:Obj) (hx:∀ c,x ≠ .cells c):Keeps H (H.setObj i x):=
  .of (by simp [St.setObj]) (Nat.le_refl _) rfl fun o c _ h=>by
    simp only [St.setObj,List.getElem?_set] at h
    split at h
    · split at h
      · simp only [Option.some.injEq] at h;exact absurd h (hx c)
      · cases h
    · exact h
theorem Keeps.write {H H':St} {a:HV} {vs:List HV} (h:H.write a vs = some H'):Keeps H H':=by
  unfold St.write at h
  split at h
  · rename_i i off
    split at h
    · rename_i c hc
      split at h
      · rename_i hle
        simp only [Option.some.injEq] at h
        have hoc:H.objs[i]? = some (.cells c):=by
          unfold St.cells? at hc
          split at hc
          · rename_i ho;simp only [Option.some.injEq] at hc;rw [ho,hc]
          · cases hc
        have hobjs:H'.objs = H.objs.set i (.cells (splice c off vs)):=by rw [← h];unfold St.noteLow;split <;> rfl
        have htips:H'.tips = H.tips:=by rw [← h];unfold St.noteLow;split <;> rfl
        have hlow:H'.low = if vs.any HV.loose1 then minLow H.low (some i) else H.low:=by rw [← h];unfold St.noteLow;split <;> rfl
        refine ⟨by rw [hobjs];simp,by rw [htips];exact Nat.le_refl _,fun no nt hno _ hcl hl o c' ho hoc'=>?_⟩
        rw [hobjs,List.getElem?_set] at hoc'
        split at hoc'
        · rename_i hio
          subst hio
          split at hoc'
          · simp only [Option.some.injEq,Obj.cells.injEq] at hoc'
            subst hoc'
            rw [hlow] at hl
            split at hl
            · rw [lowOk_min] at hl
              simp only [lowOk,Bool.and_eq_true,decide_eq_true_eq] at hl
              omega
            · rename_i hnl
              have hold:=unds_iff.1 (hcl hl i c ho hoc)
              refine unds_iff.2 fun v hv=>?_
              simp only [splice,List.mem_append] at hv
              rcases hv with (hv | hv) | hv
              · exact hold v (List.mem_of_mem_take hv)
              · refine und_tight ?_
                simp only [Bool.not_eq_true,List.any_eq_false] at hnl
                simpa using hnl v hv
              · exact hold v (List.mem_of_mem_drop hv)
          · cases hoc'
        · refine hcl ?_ o c' ho hoc'
          rw [hlow] at hl
          split at hl
          · rw [lowOk_min] at hl
            simp only [Bool.and_eq_true] at hl
            exact hl.1
          · exact hl
      · cases h
    · cases h
  · cases h
def HOp.still:HOp→Bool
  | .nilTok | .alloc _ | .box .. | .store .. | .makeMap .. | .makeSlice .. | .mapUpdate .. | .mapEntry .. | .entryStore .. | .rangeStr _ | .nextStr _ | .append .. | .copy .. | .delete .. | .callF .. | .callV ..=>false
  | _=>true
theorem map_same {α:Type} {x:Option α} {f:α→HV} {H H':St} {u:HV} (h:x.map (fun a=>(f a,H)) = some (u,H')):H' = H:=by
  cases x with
  | none=>cases h
  | some a=>simp only [Option.map_some,Option.some.injEq,Prod.mk.injEq] at h;exact h.2.symm
theorem still_same {call:CallT} {ρ:HO→Option HV} {H H':St} {hop:HOp} {u:HV} (hs:hop.still = true) (h:stepOp call ρ H hop = some (u,H')):H' = H:=by
  cases hop <;> (first | cases hs;done | skip) <;> simp only [stepOp] at h <;> (repeat' split at h) <;>
    first
      | exact map_same h
      | (cases h;done)
      | (simp only [Option.some.injEq,Prod.mk.injEq,reduceCtorEq] at h;exact h.2.symm)
      | (simp only [Option.map_eq_some_iff,Prod.mk.injEq] at h;obtain ⟨_,_,_,h⟩:=h;exact h.symm)
def CallKeeps (call:CallT):Prop:=∀ f args H r H',call f args H = some (r,H')→Keeps H H'
theorem step_keeps {call:CallT} {ρ:HO→Option HV} {H H':St} {hop:HOp} {u:HV} (hc:CallKeeps call) (h:stepOp call ρ H hop = some (u,H')):Keeps H H':=by
  by_cases hs:hop.still = true
  · rw [still_same hs h];exact .refl H
  replace hs:hop.still = false:=by simpa using hs
  cases hop <;> first | (cases hs;done) | simp only [stepOp] at h
  case nilTok=>simp only [Option.some.injEq,Prod.mk.injEq] at h;rw [← h.2];exact .addTips _ _ (by simp)
  case alloc=>simp only [Option.some.injEq,Prod.mk.injEq] at h;rw [← h.2];exact .alloc _ _
  case box=>
    (repeat' split at h) <;> simp only [Option.some.injEq,Prod.mk.injEq,reduceCtorEq] at h
    rw [← h.2];exact .alloc _ _
  case store=>
    (repeat' split at h) <;> try cases h
    simp only [Option.map_eq_some_iff,Prod.mk.injEq] at h
    obtain ⟨a,h1,_,h2⟩:=h
    rw [← h2];exact .write h1
  case makeMap=>
    (repeat' split at h) <;> simp only [Option.some.injEq,Prod.mk.injEq,reduceCtorEq] at h
    rw [← h.2];exact .alloc _ _
  case makeSlice=>
    (repeat' split at h) <;> simp only [Option.some.injEq,Prod.mk.injEq,reduceCtorEq] at h
    · rw [← h.2];exact .addTips _ _ (by simp)
    · rw [← h.2];exact .alloc _ _
  case mapUpdate=>
    (repeat' split at h) <;> simp only [Option.some.injEq,Prod.mk.injEq,reduceCtorEq] at h
    · rw [← h.2];exact .setObj _ _ _ (fun _=>by simp)
    · rw [← h.2];exact .setObj _ _ _ (fun _=>by simp)
  case mapEntry=>
    (repeat' split at h) <;> simp only [Option.some.injEq,Prod.mk.injEq,reduceCtorEq] at h
    · rw [← h.2];exact .setObj _ _ _ (fun _=>by simp)
    · rw [← h.2];exact .setObj _ _ _ (fun _=>by simp)
  case entryStore=>
    (repeat' split at h) <;> simp only [Option.some.injEq,Prod.mk.injEq,reduceCtorEq] at h
    rw [← h.2];exact .setObj _ _ _ (fun _=>by simp)
  case rangeStr=>
    (repeat' split at h) <;> simp only [Option.some.injEq,Prod.mk.injEq,reduceCtorEq] at h
    rw [← h.2];exact .alloc _ _
  case nextStr=>
    (repeat' split at h) <;> simp only [Option.some.injEq,Prod.mk.injEq,reduceCtorEq] at h
    · rw [← h.2];exact .setObj _ _ _ (fun _=>by simp)
    · rw [← h.2];exact .refl H
  case append=>
    (repeat' split at h) <;> simp only [Option.some.injEq,Prod.mk.injEq,reduceCtorEq] at h <;> rw [← h.2] <;> first | exact .refl H | exact .addTips _ _ (by simp)
  case copy=>
    (repeat' split at h) <;> first
      | (cases h;done)
      | (simp only [Option.map_eq_some_iff,Prod.mk.injEq] at h
         obtain ⟨a,h1,_,h2⟩:=h
         rw [← h2];exact .write h1)
      | (simp only [Option.some.injEq,Prod.mk.injEq] at h;rw [← h.2];exact .refl H)
  case delete=>
    (repeat' split at h) <;> simp only [Option.some.injEq,Prod.mk.injEq,reduceCtorEq] at h
    · rw [← h.2];exact .setObj _ _ _ (fun _=>by simp)
    · rw [← h.2];exact .setObj _ _ _ (fun _=>by simp)
  case callF=>
    split at h
    · exact hc _ _ _ _ _ h
    · cases h
  case callV=>
    split at h
    · exact hc _ _ _ _ _ h
    · cases h
theorem keep_open {h H:St} (k:Keeps { h with low:=none } H):Keeps h { H with low:=minLow h.low H.low }:=by
  refine ⟨k.objs,k.tips,fun no nt h1 h2 hc hl=>?_⟩
  simp only [lowOk_min,Bool.and_eq_true] at hl
  exact k.clean no nt h1 h2 (fun _=>hc hl.1) hl.2
theorem keep_cut {h H:St} (k:Keeps { h with low:=none } H) (hl:lowOk h.objs.length H.low = true) {tips:List Nat} (ht:h.tips.length ≤ tips.length) :
    Keeps h { objs:=H.objs.take h.objs.length,tips,low:=h.low }:=by
  refine ⟨?_,ht,fun no nt h1 h2 hc hlow o c ho hoc=>?_⟩
  · have:=k.objs
    simp only [List.length_take]
    simp only at this
    omega
  · simp only [List.getElem?_take] at hoc
    split at hoc
    · refine k.clean no nt h1 h2 (fun _=>hc hlow) ?_ o c ho hoc
      cases hh:H.low with
      | none=>rfl
      | some a=>rw [hh] at hl;simp only [lowOk,decide_eq_true_eq] at hl ⊢;omega
    · cases hoc
theorem oper_keeps {call:CallT} (hc:CallKeeps call) {e e':Env} {H H':St} {o:HOper} (h:stepOper call e H o = some (e',H')):Keeps H H':=by
  unfold stepOper at h
  split at h
  · split at h
    · rename_i h'
      simp only [Option.some.injEq,Prod.mk.injEq] at h
      rw [← h.2];exact step_keeps hc h'
    · cases h
  · simp only [Option.some.injEq,Prod.mk.injEq] at h
    rw [← h.2];exact .refl H
  · cases h
theorem runOps_keeps {call:CallT} (hc:CallKeeps call):∀ {ops:List HOper} {e e':Env} {H H':St},runOps call ops e H = some (e',H')→Keeps H H'
  | [],_,_,_,_,h=>by simp only [runOps,Option.some.injEq,Prod.mk.injEq] at h;rw [← h.2];exact .refl _
  | o :: os,e,e',H,H',h=>by
    simp only [runOps] at h
    split at h
    · rename_i h'
      exact (oper_keeps hc h').trans (runOps_keeps hc h)
    · cases h
theorem runAllocs_keeps {call:CallT} (hc:CallKeeps call):∀ {ops:List HOper} {e e':Env} {H H':St},runAllocs call ops e H = some (e',H')→Keeps H H'
  | [],_,_,_,_,h=>by simp only [runAllocs,Option.some.injEq,Prod.mk.injEq] at h;rw [← h.2];exact .refl _
  | o :: os,e,e',H,H',h=>by
    simp only [runAllocs] at h
    split at h
    · split at h
      · rename_i h'
        exact (oper_keeps hc h').trans (runAllocs_keeps hc h)
      · cases h
    · exact runAllocs_keeps hc h
theorem drawOps_keeps {call:CallT} (hc:CallKeeps call):∀ {ops:List HOper} {i:Nat} {e e':Env} {H H':St} {sn:List (Nat × St)} {pe:List Look},drawOps call ops i e H sn pe = some (e',H')→Keeps H H'
  | [],_,_,_,_,_,_,_,h=>by simp only [drawOps,Option.some.injEq,Prod.mk.injEq] at h;rw [← h.2];exact .refl _
  | o :: os,i,e,e',H,H',sn,pe,h=>by
    simp only [drawOps] at h
    split at h
    · exact drawOps_keeps hc h
    · split at h
      · split at h
        · rename_i v H1 h'
          split at h
          · exact drawOps_keeps hc h
          · split at h
            · split at h
              · exact drawOps_keeps hc h
              · cases h
            · split at h
              · exact (step_keeps hc h').trans (drawOps_keeps hc h)
              · cases h
        · cases h
      · exact drawOps_keeps hc h
      · cases h
def StepKeeps (s:Step):Prop:=∀ e H o e' H',s e H = some (o,e',H')→Keeps H H'
theorem iter_keeps {s:Step} (hs:StepKeeps s):∀ n,StepKeeps (iter s n)
  | 0=>fun e H o e' H' h=>by cases h
  | n + 1=>fun e H o e' H' h=>by
    simp only [iter] at h
    split at h
    · rename_i h'
      exact (hs _ _ _ _ _ h').trans (iter_keeps hs n _ _ _ _ _ h)
    · exact hs _ _ _ _ _ h
theorem round_keeps {keep:List Nat} {body:Step} (hs:StepKeeps body):StepKeeps (round keep body):=by
  intro e H o e' H' h
  unfold round at h
  split at h
  · rename_i e1 H1 h'
    have k:=hs _ _ _ _ _ h'
    simp only [Option.some.injEq,Prod.mk.injEq] at h
    rw [← h.2.2]
    unfold closeRound
    dsimp only
    split
    · rename_i hcond
      simp only [Bool.and_eq_true] at hcond
      exact keep_cut k hcond.1 k.tips
    · exact keep_open k
  · rename_i h'
    simp only [Option.some.injEq,Prod.mk.injEq] at h
    rw [← h.2.2]
    exact keep_open (hs _ _ _ _ _ h')
  · cases h
theorem exec_keeps {n:Nat} {call:CallT} (hc:CallKeeps call):∀ c:HC,StepKeeps (exec n call c)
  | .skip=>fun e H o e' H' h=>by simp only [exec,Option.some.injEq,Prod.mk.injEq] at h;rw [← h.2.2];exact .refl _
  | .region draw ops keep=>fun e H o e' H' h=>by
    simp only [exec] at h
    split at h
    · rename_i e1 H1 h'
      simp only [Option.some.injEq,Prod.mk.injEq] at h
      rw [← h.2.2]
      split at h'
      · split at h'
        · rename_i h''
          exact (runAllocs_keeps hc h'').trans (drawOps_keeps hc h')
        · cases h'
      · exact runOps_keeps hc h'
    · cases h
  | .seq a b=>fun e H o e' H' h=>by
    simp only [exec] at h
    split at h
    · rename_i h'
      exact (exec_keeps hc a _ _ _ _ _ h').trans (exec_keeps hc b _ _ _ _ _ h)
    · exact exec_keeps hc a _ _ _ _ _ h
  | .cond c a b=>fun e H o e' H' h=>by
    simp only [exec] at h
    split at h
    · exact exec_keeps hc a _ _ _ _ _ h
    · exact exec_keeps hc b _ _ _ _ _ h
    · cases h
  | .block id keep body=>fun e H o e' H' h=>by
    simp only [exec] at h
    split at h
    · rename_i h'
      simp only [Option.some.injEq,Prod.mk.injEq] at h
      rw [← h.2.2]
      exact exec_keeps hc body _ _ _ _ _ h'
    · rename_i h'
      split at h <;> (simp only [Option.some.injEq,Prod.mk.injEq] at h;rw [← h.2.2];exact exec_keeps hc body _ _ _ _ _ h')
    · exact exec_keeps hc body _ _ _ _ _ h
  | .loop keep body=>fun e H o e' H' h=>by
    simp only [exec] at h
    exact iter_keeps (round_keeps (exec_keeps hc body)) n _ _ _ _ _ h
  | .scope body=>fun e H o e' H' h=>by
    simp only [exec] at h
    exact exec_keeps hc body _ _ _ _ _ h
  | .label _=>fun e H o e' H' h=>by simp only [exec,Option.some.injEq,Prod.mk.injEq] at h;rw [← h.2.2];exact .refl _
  | .exit _=>fun e H o e' H' h=>by simp only [exec,Option.some.injEq,Prod.mk.injEq] at h;rw [← h.2.2];exact .refl _
  | .ret=>fun e H o e' H' h=>by simp only [exec,Option.some.injEq,Prod.mk.injEq] at h;rw [← h.2.2];exact .refl _
theorem finish_keeps {pol:RetPol} {h H H':St} {vs:List HV} {r:HV} (k:Keeps { h with low:=none } H) (hf:finish pol h vs H = (r,H')):Keeps h H':=by
  have ht:=k.tips
  simp only at ht
  have cut:∀ tips:List Nat,h.tips.length ≤ tips.length→lowOk h.objs.length H.low = true→Keeps h { objs:=H.objs.take h.objs.length,tips,low:=h.low }:=fun tips h1 h2=>keep_cut k h2 h1
  have t1:h.tips.length ≤ (H.tips.take h.tips.length).length:=by simp;omega
  have op:=keep_open k
  unfold finish at hf
  dsimp only at hf
  split at hf
  · cases hf;exact op
  · split at hf
    · rename_i hc
      simp only [Bool.and_eq_true] at hc
      cases hf;exact cut _ t1 hc.1
    · cases hf;exact op
  · split at hf
    · rename_i hc
      simp only [Bool.and_eq_true] at hc
      cases hf;exact cut _ t1 hc.1
    · cases hf;exact op
  · split at hf
    · split at hf
      · rename_i hc
        simp only [Bool.and_eq_true] at hc
        cases hf;exact cut _ (by simp;omega) hc.1.1.1
      · cases hf;exact op
    · split at hf
      · rename_i hc
        simp only [Bool.and_eq_true] at hc
        cases hf;exact cut _ t1 hc.1
      · cases hf;exact op
    · cases hf;exact op
theorem runFun_keeps {n:Nat} {call:CallT} (hc:CallKeeps call) {f:HFun} {args:List HV} {h H':St} {r:HV} (hr:runFun n call f args h = some (r,H')):Keeps h H':=by
  unfold runFun at hr
  split at hr
  · cases hr
  · rename_i o e H hne hx
    cases hres:results e H f.res with
    | none=>rw [hres] at hr;cases hr
    | some vs=>
      rw [hres] at hr
      simp only [Option.map_some,Option.some.injEq] at hr
      exact finish_keeps (exec_keeps hc f.code _ _ _ _ _ hx) hr
  · cases hr
theorem callN_keeps (p:HProg):∀ n,CallKeeps (callN p n)
  | 0=>fun f args H r H' h=>by cases h
  | n + 1=>fun f args H r H' h=>by
    simp only [callN] at h
    split at h
    · rename_i g _
      cases hg:g args H with
      | none=>rw [hg] at h;cases h
      | some v=>rw [hg] at h;simp only [Option.map_some,Option.some.injEq,Prod.mk.injEq] at h;rw [← h.2];exact .refl _
    · split at h
      · exact runFun_keeps (callN_keeps p n) h
      · cases h
end Am
