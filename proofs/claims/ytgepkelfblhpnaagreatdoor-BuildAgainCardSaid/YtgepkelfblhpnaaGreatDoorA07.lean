/- A part of the proof of BuildAgain: no condition of its own. Whence: AmOps7. -/
import Derived.Test.YtgepkelfblhpnaaGreatDoorA06
import Derived.Laws.IdiomCopy
import Derived.Deep.AppendSrc
set_option linter.all false
namespace Am
open Go
section
variable {P:Program} {gt:Nat→Option (List D)} {L:Lay} {H H':St} {w w':World} {η:Operand→Value} {ρ:HO→Option HV} {o:Oper} {u:HV} {hop:HOp} {call:CallT} {tips:List Nat}
structure OneBlock (w w':World) (b:Nat):Prop where
  size:w'.heap.size = w.heap.size
  old:∀ c,c ≠ b→w'.heap[c]? = w.heap[c]?
  tape:w'.tape = w.tape
  os:w'.os = w.os
  output:w'.output = w.output
  drawn:w.drawn ≤ w'.drawn
theorem Sim.congr (S:Sim gt H L w) (h1:H'.objs = H.objs) (h2:H'.tips = H.tips):Sim gt H' L w:=by
  cases H;cases H'
  simp only at h1 h2
  subst h1;subst h2
  exact { glob:=S.glob,nobj:=S.nobj,ntip:=S.ntip,obj:=S.obj,pend:=S.pend,tip:=S.tip,tip0:=S.tip0,inj:=S.inj,tinj:=S.tinj,disj:=S.disj,objI:=S.objI,fresh:=S.fresh,young:=S.young,baseLe:=S.baseLe }
theorem OneBlock.ext {b:Nat} (q:OneBlock w w' b) (hI:L.I b = 0) (ho:L.base ≤ b) (n:Nat):Ext n L tips w L tips w' where
  grow:=⟨fun _=>Nat.le_refl _,fun c off h=>cell_heap (q.old c (fun e=>by subst e;omega)) off⟩
  φ:=fun _ _=>rfl
  tips:=fun _ k h=>⟨k,h,Nat.le_refl _,fun _=>rfl⟩
  size:=Nat.le_of_eq q.size.symm
  tape:=q.tape
  os:=q.os
  output:=q.output
  drawn:=q.drawn
  old:=fun c hc=>q.old c (by omega)
  base:=rfl
  pc:=fun _ _=>rfl
theorem Sim.setObj (S:Sim gt H L w) {i b:Nat} (hb:L.φ[i]? = some (some b)) (q:OneBlock w w' b) (x:Obj) (hx:ObjRel L H.tips w' b x) (n:Nat) :
    Ext n L H.tips w L (H.setObj i x).tips w' ∧ Sim gt (H.setObj i x) L w':=by
  have hI:=(S.objI i b hb).1
  have e:∀ n,Ext n L H.tips w L H.tips w':=fun n=>q.ext hI (S.young b (.inl ⟨i,hb⟩)) n
  refine ⟨e n,?_⟩
  have st:=(e L.φ.length).stays
  exact {
    glob:=fun g cs h=>(S.glob g cs h).grow (e 0).grow
    nobj:=by simp [St.setObj,S.nobj]
    ntip:=S.ntip
    obj:=fun j b' y h1 h2=>by
      simp only [St.setObj,List.getElem?_set] at h1
      split at h1
      · rename_i hj
        subst hj
        split at h1
        · simp only [Option.some.injEq] at h1
          subst h1
          rw [hb] at h2
          simp only [Option.some.injEq] at h2
          subst h2
          exact hx
        · cases h1
      · rename_i hj
        exact (S.obj j b' y h1 h2).move st (q.old b' (fun e=>hj (S.inj i j b' (e ▸ hb) h2)))
    pend:=fun j h2=>by
      simp only [St.setObj,List.getElem?_set]
      split
      · rename_i hj
        subst hj
        rw [hb] at h2
        cases h2
      · exact S.pend j h2
    tip:=fun t k b' sz cap h1 h2=>by
      exact tip_move (S.tip t k b' sz cap h1 h2) rfl (q.old b' (fun e=>S.disj i t b' sz cap (e ▸ hb) h2))
    tip0:=S.tip0
    inj:=S.inj
    tinj:=S.tinj
    disj:=S.disj
    objI:=fun j b' h=>by rw [q.size];exact S.objI j b' h
    fresh:=fun c h=>S.fresh c (by rw [q.size] at h;exact h)
    young:=S.young
    baseLe:=by rw [q.size];exact S.baseLe }
theorem OneBlock.setRow (w:World) (b:Nat) (cs:Array Value):OneBlock w (w.setRow b cs) b where
  size:=by simp [World.setRow]
  old:=fun c h=>by
    simp only [World.setRow,Array.getElem?_modify]
    rw [if_neg (by omega)]
  tape:=rfl
  os:=rfl
  output:=rfl
  drawn:=Nat.le_refl _
theorem OneBlock.setHeap (w:World) (b:Nat) (q:Go.Obj):OneBlock w { w with heap:=w.heap.setIfInBounds b q } b where
  size:=by simp
  old:=fun c h=>by simp [Ne.symm h]
  tape:=rfl
  os:=rfl
  output:=rfl
  drawn:=Nat.le_refl _
theorem setHeap_at {w:World} {b:Nat} {q q':Go.Obj} (h:w.heap[b]? = some q'):({ w with heap:=w.heap.setIfInBounds b q }:World).heap[b]? = some q:=by
  have:=(Array.getElem?_eq_some_iff.1 h).1
  simp [this]
theorem VRels.splice {c vs:List HV} {X Y:List Value} (h:VRels L tips w c X) (h':VRels L tips w vs Y) (off:Nat):VRels L tips w (splice c off vs) (X.take off ++ Y ++ X.drop (off + Y.length)):=by
  unfold Am.splice
  rw [h'.length]
  exact ((h.take off).append h').append (h.drop _)
theorem flat1_one {u:HV} {v:Value} (h:VRel L tips w u v) (hf:u.flat1 = true):v.oneCell' = true:=by
  cases h <;> first | rfl | (simp [HV.flat1] at hf;done) | skip
  · rename_i hd;cases hd <;> rfl
  · rename_i hd _;cases hd <;> rfl
theorem flat1_all:∀ {us:List HV} {vs:List Value},VRels L tips w us vs→us.all HV.flat1 = true→∀ v ∈ vs,v.oneCell' = true
  | _,_,.nil,_,_,hv=>by cases hv
  | _,_,.cons u v us vs h h',hf,x,hx=>by
    simp only [List.all_cons,Bool.and_eq_true] at hf
    cases hx with
    | head=>exact flat1_one h hf.1
    | tail _ hm=>exact flat1_all h' hf.2 x hm
theorem run_storeCells_thaw (b o:Nat) (t:TypeId):∀ (vs:List Value) (i:Nat) (cur:Array Value) (w:World),RowAt w b cur t→o + i + vs.length ≤ cur.size→(∀ v ∈ vs,v.oneCell' = true) →
    (storeCells ⟨b,o,none⟩ vs i).run P w = .ok () (w.setRow b (cur.toList.take (o + i) ++ vs ++ cur.toList.drop (o + i + vs.length)).toArray)
  | [],i,cur,w,hg,_,_=>by
    obtain ⟨fz,hg,_⟩:=hg
    simp only [storeCells,List.append_nil,List.length_nil,Nat.add_zero,List.take_append_drop,Array.toArray_toList]
    rw [setRow_self w b cur t fz hg]
    rfl
  | v :: rest,i,cur,w,hg,hl,h1=>by
    have hi:o + i < cur.size:=by simp at hl;omega
    have hadd:(⟨b,o,none⟩:Addr).add i = ⟨b,o + i,none⟩:=by rw [Addr.add_lit]
    have hcell:w.cell? ⟨b,o + i,none⟩ = some cur[o + i]:=by rw [hg.cell];exact Array.getElem?_eq_getElem hi
    have hfro:w.frozen? ⟨b,o + i,none⟩ = false:=hg.frozen _ hi
    have hst:(store ((⟨b,o,none⟩:Addr).add i) v).run P w = .ok () (w.setRow b (cur.setIfInBounds (o + i) v)):=by
      obtain ⟨fz,hg,_⟩:=hg
      rw [hadd,run_store P w _ v _ (h1 v (by simp)),hcell]
      simp [hfro,setCell_eq_setRow w b (o + i) cur t fz v hg]
    have ih:=run_storeCells_thaw b o t rest (i + 1) (cur.setIfInBounds (o + i) v) (w.setRow b (cur.setIfInBounds (o + i) v)) (hg.setRow (by simp)) (by simp at hl ⊢;omega) (fun x hx=>h1 x (by simp [hx]))
    simp only [storeCells,Sem.run_bind,hst,Result.andThen_ok,ih,setRow_setRow]
    congr 3
    have e:=list_seg_step cur.toList (o + i) v rest (by simp at hl ⊢;omega)
    simpa [Array.toList_setIfInBounds,Nat.add_assoc] using e
theorem run_storeCells_row {b off:Nat} {t:TypeId} {vs:List Value} {cur:Array Value} (hg:RowAt w b cur t) (hl:off + vs.length ≤ cur.size) (h1:∀ v ∈ vs,v.oneCell' = true) :
    (storeCells ⟨b,off,none⟩ vs).run P w = .ok () (w.setRow b (cur.toList.take off ++ vs ++ cur.toList.drop (off + vs.length)).toArray):=by
  simpa using run_storeCells_thaw (P:=P) b off t vs 0 cur w hg (by simpa using hl) h1
theorem write_sound (S:Sim gt H L w) {a:HV} {p:Value} {vs:List HV} {Y:List Value} (ha:VRel L H.tips w a p) (hv:VRels L H.tips w vs Y) (h1:∀ v ∈ Y,v.oneCell' = true) (h:H.write a vs = some H') :
    ∃ b off w',p = .pointer (some ⟨b,off,none⟩) ∧ (storeCells ⟨b,off,none⟩ Y).run P w = .ok () w' ∧ Ext L.φ.length L H.tips w L H'.tips w' ∧ Sim gt H' L w':=by
  unfold St.write at h
  split at h
  · rename_i i off
    split at h
    · rename_i c hc
      split at h
      · rename_i hle
        simp only [Option.some.injEq] at h
        subst h
        cases ha with
        | ref _ _ b hb=>
          obtain ⟨X,elem,hh,hr⟩:=S.cells hc hb
          have hl:=hr.length
          have hl':=hv.length
          have hst:=run_storeCells_row (P:=P) (off:=off) hh (by simp at hl ⊢;omega) h1
          have q:=OneBlock.setRow w b (X.toList.take off ++ Y ++ X.toList.drop (off + Y.length)).toArray
          have st:=(q.ext (tips:=H.tips) (S.objI i b hb).1 (S.young _ (.inl ⟨i,hb⟩)) L.φ.length).stays
          obtain ⟨e1,e2⟩:=S.setObj hb q (.cells (splice c off vs)) ⟨_,elem,hh.setRow (by simp;simp at hl;omega),(hr.splice hv off).move st⟩ L.φ.length
          refine ⟨b,off,_,rfl,hst,?_,?_⟩
          · unfold St.noteLow;split <;> exact e1
          · refine e2.congr ?_ ?_ <;> (unfold St.noteLow;split <;> rfl)
      · cases h
    · cases h
  · cases h
section
variable (S:Sim gt H L w) (R:Opnds gt L H.tips w η ρ) (h:stepOp call ρ H hop = some (u,H'))
include S R h
omit S R h in
theorem undef_rel {L:Lay} {tips:List Nat} {w:World}:VRel L tips w undefV undef:=.tup [] [] .nil
theorem g_store {t:TypeId} {x v:Operand} (ho:o.op = .store t x v) (hc:cOp P gt (.store t x v) = some hop):Good P gt η o H L w u H':=by
  simp only [cOp] at hc
  split at hc
  · rename_i n x' v' h1 h2 h3
    simp only [Option.some.injEq] at hc
    subst hc
    obtain ⟨i,hi,hin,hn0⟩:=size_inv h1
    simp only [stepOp] at h
    split at h
    · rename_i a q ha hq
      split at h
      · rename_i hcond
        obtain ⟨H'',hw,hh⟩:=map_mk h
        simp only [Prod.mk.injEq] at hh
        obtain ⟨rfl,rfl⟩:=hh
        have vq:=(R v v' _ h3 hq).cells
        obtain ⟨b,off,w',hp,hst,e1,e2⟩:=write_sound (P:=P) S (R x x' _ h2 ha) vq (flat1_all vq hcond.2) hw
        refine ⟨.skip,undef,w',L,?_,.inr ⟨rfl,rfl⟩,e1,e2,undef_rel⟩
        have hsz:(η v).cells.size = i.size:=by have:=vq.length;rw [hcond.1] at this;simp at this;omega
        simp [execOp,ho,Instr.storeAt,Instr.sureAddr,hp,storeVar,run_sizeOf hi,hsz,hst]
      · cases h
    · cases h
  · cases hc
theorem g_nextStr {x:Operand} (ho:o.op = .next x true) (hc:(cO gt x).map HOp.nextStr = some hop):Good P gt η o H L w u H':=by
  obtain ⟨y,hy,rfl⟩:=map_mk hc
  simp only [stepOp] at h
  split at h
  · rename_i i hv
    have hr:=R x y _ hy hv
    have hx:∃ b,η x = .pointer (some ⟨b,0,none⟩) ∧ L.φ[i]? = some (some b):=by
      generalize η x = v at hr
      cases hr with | ref _ _ b hb=>exact ⟨b,rfl,hb⟩
    obtain ⟨b,hp,hb⟩:=hx
    split at h
    · rename_i s pos hi
      have hh:w.heap[b]? = some (.stringIter ⟨s.toArray⟩ pos):=S.obj i b _ hi hb
      have hg:(getObj b).run P w = .ok (.stringIter ⟨s.toArray⟩ pos) w:=by simp [getObj,Sem.run,hh]
      have hsz:(⟨s.toArray⟩:ByteArray).size = s.length:=by simp [ByteArray.size]
      split at h
      · rename_i hpos
        simp only [Option.some.injEq,Prod.mk.injEq] at h
        obtain ⟨rfl,rfl⟩:=h
        have q:=OneBlock.setHeap w b (.stringIter ⟨s.toArray⟩ (pos + (Utf8.decode ⟨s.toArray⟩ pos).2))
        obtain ⟨e1,e2⟩:=S.setObj hb q (.iter s (pos + (Utf8.decode ⟨s.toArray⟩ pos).2)) (setHeap_at hh) L.φ.length
        refine ⟨.value (.tuple #[.bool true,goInt pos,.int .i32 (Utf8.decode ⟨s.toArray⟩ pos).1]),_,_,L,?_,.inl rfl,e1,e2,.tup _ [_,_,_] (.cons _ _ _ _ (.d _ _ (.bool _)) (.cons _ _ _ _ (.d _ _ (.int _ _)) (.one (.d _ _ (.int _ _)))))⟩
        simp [execOp,ho,Instr.next,hp,hg,hsz,hpos,setObj,Sem.run,hh]
      · rename_i hpos
        simp only [Option.some.injEq,Prod.mk.injEq] at h
        obtain ⟨rfl,rfl⟩:=h
        refine .same S (v:=.tuple #[.bool false]) ?_ (.tup [_] [_] (.one (.d _ _ (.bool _))))
        simp [execOp,ho,Instr.next,hp,hg,hsz,hpos]
    · cases h
  · cases h
omit S R h in
theorem findKey_at {ks:List LK} {key:List D}:∀ {es:List (List D × List D)} {n i:Nat} {v:List D},findKey ks key es n = some (some (i,v)) →
    n ≤ i ∧ ∃ j,es[i - n]? = some (j,v) ∧ cellsEq ks key j = some true
  | [],n,i,v,h=>by simp [findKey] at h
  | (j,v') :: es,n,i,v,h=>by
    simp only [findKey] at h
    split at h
    · rename_i hc
      simp only [Option.some.injEq,Prod.mk.injEq] at h
      obtain ⟨rfl,rfl⟩:=h
      exact ⟨Nat.le_refl _,j,by simp,hc⟩
    · obtain ⟨h1,j',h2,h3⟩:=findKey_at h
      refine ⟨by omega,j',?_,h3⟩
      rw [show i - n = (i - (n + 1)) + 1 by omega]
      simpa using h2
    · cases h
def D.leaf:D→Bool
  | .bool _ | .int _ _ | .str _=>true
  | _=>false
omit S R h in
theorem cellsEq_true:∀ {ks:List LK} {a b:List D},cellsEq ks a b = some true→a = b ∧ a.all D.leaf = true
  | [],[],[],_=>⟨rfl,rfl⟩
  | [],_ :: _,_,h=>by simp [cellsEq] at h
  | [],[],_ :: _,h=>by simp [cellsEq] at h
  | _ :: _,[],_,h=>by simp [cellsEq] at h
  | _ :: _,_ :: _,[],h=>by simp [cellsEq] at h
  | k :: ks,x :: as,y :: bs,h=>by
    simp only [cellsEq] at h
    cases h1:scalarEq k x y with
    | none=>simp [h1] at h
    | some p=>cases h2:cellsEq ks as bs with
      | none=>simp [h1,h2] at h
      | some q=>
        simp only [h1,h2,Option.some.injEq,Bool.and_eq_true] at h
        obtain ⟨rfl,rfl⟩:=h
        obtain ⟨rfl,h3⟩:=cellsEq_true h2
        have:x = y ∧ x.leaf = true:=by
          cases k <;> cases x <;> cases y <;> simp only [scalarEq,Option.some.injEq,reduceCtorEq,beq_iff_eq] at h1
          · subst h1;exact ⟨rfl,rfl⟩
          · split at h1
            · rename_i hk;subst hk;simp only [Option.some.injEq,beq_iff_eq] at h1;subst h1;exact ⟨rfl,rfl⟩
            · cases h1
          · subst h1;exact ⟨rfl,rfl⟩
        obtain ⟨rfl,h4⟩:=this
        exact ⟨rfl,by simp [h3,h4]⟩
omit S R h in
theorem drel_leaf {I:Nat→Nat} {x:D} {v v':Value} (hx:x.leaf = true) (h:DRel I w x v) (h':DRel I w x v'):v = v' ∧ ∀ n,Instr.sameBits n v v' = true:=by
  cases x <;> simp [D.leaf] at hx <;> cases h <;> cases h' <;> exact ⟨rfl,fun n=>by cases n <;> simp [Instr.sameBits,beq_mk]⟩
omit S R h in
theorem sameBits_sound {I:Nat→Nat} {a:Bool} {k:List D} {v v':Value} (hl:k.all D.leaf = true) (h:EntryRel I w a k v) (h':EntryRel I w a k v') (n:Nat):Instr.sameBits (n + 1) v v' = true:=by
  unfold EntryRel at h h'
  split at h
  · rename_i ha
    rw [if_pos ha] at h'
    obtain ⟨X,rfl,h1,h2⟩:=h
    obtain ⟨Y,rfl,h3,h4⟩:=h'
    simp only [Instr.sameBits,List.size_toArray,h1,h3,beq_self_eq_true,Bool.true_and,List.all_eq_true]
    rintro ⟨p,q⟩ hm
    obtain ⟨i,hi⟩:=List.mem_iff_getElem?.1 hm
    rw [List.getElem?_zip_eq_some] at hi
    obtain ⟨hi1,hi2⟩:=hi
    simp only at hi1 hi2
    have hlt:i < k.length:=by have:=lt_of_getElem? hi1;omega
    obtain ⟨u1,hu1,hd1⟩:=h2 i _ (List.getElem?_eq_getElem hlt)
    obtain ⟨u2,hu2,hd2⟩:=h4 i _ (List.getElem?_eq_getElem hlt)
    rw [hi1] at hu1;cases hu1
    rw [hi2] at hu2;cases hu2
    exact (drel_leaf (List.all_eq_true.1 hl _ (List.getElem_mem hlt)) hd1 hd2).2 n
  · rename_i ha
    rw [if_neg ha] at h'
    obtain ⟨x,rfl,h1⟩:=h
    obtain ⟨y,hy,h2⟩:=h'
    cases hy
    simp only [List.all_cons,List.all_nil,Bool.and_true] at hl
    exact (drel_leaf hl h1 h2).2 _
omit S R h in
theorem arr_findIdx {α:Type} (a:Array α) (p:α→Bool):a.findIdx? p = a.toList.findIdx? p:=by cases a;simp
omit S R h in
theorem map_erase {α β:Type} (f:α→β):∀ (l:List α) (n:Nat),(l.eraseIdx n).map f = (l.map f).eraseIdx n
  | [],_=>by simp
  | _ :: _,0=>by simp
  | _ :: l,n + 1=>by simp [map_erase f l n]
omit S R h in
theorem born_modify (ents:Array MapEntry) (n:Nat) (f:MapEntry→MapEntry) (hf:∀ e,(f e).born = e.born):(ents.modify n f).toList.map (·.born) = ents.toList.map (·.born):=by
  apply List.ext_getElem?
  intro k
  simp only [List.getElem?_map,Array.getElem?_toList,Array.getElem?_modify]
  split
  · cases ents[k]? <;> simp [hf]
  · rfl
theorem g_mapUpdate {t:TypeId} {m k v:Operand} (ho:o.op = .mapUpdate t m k v) (hc:cOp P gt (.mapUpdate t m k v) = some hop):Good P gt η o H L w u H':=by
  simp only [cOp] at hc
  split at hc
  · rename_i kt vt m' k' v' h1 h2 h3 h3'
    split at hc
    · rename_i ka va hka hva
      split at hc
      · rename_i ks hks
        simp only [Option.some.injEq] at hc
        subst hc
        simp only [stepOp] at h
        split at h
        · rename_i i kv vv hm hk hv
          have vm:=R m m' _ h2 hm
          have vk:=R k k' _ h3 hk
          have vv':=R v v' _ h3' hv
          split at h
          · rename_i hagg
            split at h
            · rename_i ka' va' es st key val hoj hkey hval
              have hes:H.map? i = some (ka',va',es):=by unfold St.map?;rw [hoj]
              split at h
              · rename_i hcond
                obtain ⟨rfl,rfl,hkl⟩:=hcond
                have ek:=key_entry vk hagg.1 hkey
                have ev:=key_entry vv' hagg.2 hval
                obtain ⟨X,dX,pX⟩:=entry_part ek hka
                have hck:∀ e,(Instr.checkKey e 10000 kt (η k)).run P w = .ok () w:=fun e=>checkKey_sound (P:=P) L.I w e 20 kt ks hks 9980 key X (η k) dX hkl pX
                rcases map_rel (ka0:=ka') (va0:=va') S vm (by simpa [St.mapOf] using hes) with ⟨hmv,_⟩ | ⟨o',b,ents,clock,hoo,hmv,hb,⟨st0,ho',hst1,hst2⟩,h4,h5,h6⟩
                · rw [hmv] at vm;cases vm
                · simp only [HV.map.injEq] at hoo
                  subst hoo
                  rw [hoj] at ho'
                  simp only [Option.some.injEq,Obj.map.injEq,true_and] at ho'
                  subst ho'
                  cases hf:findKey ks key es 0 with
                  | none=>simp [hf] at h
                  | some r=>
                    obtain ⟨r',hr1,hr2⟩:=findKey_sound (P:=P) (va:=va') hks hka ek es ents.toList r (by simp [h5]) (fun j k v e hj he=>h6 j k v e hj (by simpa using he)) hf
                    have fin:∀ (es':List (List D × List D)) (st':List Nat × Nat) (ents':Array MapEntry) (clock':Nat),(execOp η o).run P w = .ok .skip { w with heap:=w.heap.setIfInBounds b (.map ents' clock') } →
                        some (undefV,H.setObj i (.map ka' va' es' st')) = some (u,H')→clock' = st'.2 ∧ ents'.toList.map (·.born) = st'.1→ents'.size = es'.length →
                        (∀ (j:Nat) (k v:List D) (e:MapEntry),es'[j]? = some (k,v)→ents'[j]? = some e→EntryRel L.I w ka' k e.key ∧ EntryRel L.I w va' v e.val)→Good P gt η o H L w u H':=by
                      intro es' st' ents' clock' hrun hh hst hsz hall
                      simp only [Option.some.injEq,Prod.mk.injEq] at hh
                      obtain ⟨rfl,rfl⟩:=hh
                      have q:=OneBlock.setHeap w b (.map ents' clock')
                      have g:=(q.ext (tips:=H.tips) (L:=L) (S.objI i b hb).1 (S.young b (.inl ⟨i,hb⟩)) 0).grow
                      obtain ⟨e1,e2⟩:=S.setObj hb q (.map ka' va' es' st') ⟨ents',clock',setHeap_at h4,hst,hsz,fun j k v e h1 h2=>⟨(hall j k v e h1 h2).1.grow g,(hall j k v e h1 h2).2.grow g⟩⟩ L.φ.length
                      exact ⟨.skip,undef,_,L,hrun,.inr ⟨rfl,rfl⟩,e1,e2,undef_rel⟩
                    cases r with
                    | none=>
                      cases r' with
                      | some _=>exact hr2.elim
                      | none=>
                        simp only [hf] at h
                        refine fin _ _ (ents.push { key:=η k,val:=η v,born:=clock }) (clock + 1) ?_ h ⟨by rw [hst1],by simp [hst1,hst2]⟩ (by simp [h5]) ?_
                        · simp [execOp,ho,Instr.mapUpdate,run_underlying h1,hmv,run_getObj_map h4,hck,hr1,setObj,Sem.run,h4]
                        · intro j kk vw e hj he
                          rcases Nat.lt_or_ge j es.length with hlt | hge
                          · rw [List.getElem?_append_left hlt] at hj
                            rw [Array.getElem?_push_lt (by omega)] at he
                            exact h6 j kk vw e hj (by rw [Array.getElem?_eq_getElem (by omega)];exact he)
                          · have hj0:=hj
                            rw [List.getElem?_append_right hge] at hj
                            have:j = es.length:=by have:=lt_of_getElem? hj0;simp at this;omega
                            subst this
                            simp only [Nat.sub_self,List.getElem?_cons_zero,Option.some.injEq,Prod.mk.injEq] at hj
                            obtain ⟨rfl,rfl⟩:=hj
                            rw [← h5] at he
                            simp only [Array.getElem?_push_size,Option.some.injEq] at he
                            subst he
                            exact ⟨ek,ev⟩
                    | some p=>
                      obtain ⟨n,x⟩:=p
                      cases r' with
                      | none=>exact hr2.elim
                      | some q=>
                        obtain ⟨n',x'⟩:=q
                        obtain ⟨rfl,hxx⟩:=hr2
                        obtain ⟨_,j,hj,hce⟩:=findKey_at hf
                        simp only [Nat.sub_zero] at hj
                        obtain ⟨rfl,hleaf⟩:=cellsEq_true hce
                        have hnlt:n < ents.size:=by have:=lt_of_getElem? hj;omega
                        have hen:=Array.getElem?_eq_getElem hnlt
                        have eo:=(h6 n _ _ _ hj hen).1
                        have hsb:Instr.sameBits 10000 ents[n].key (η k) = true:=sameBits_sound hleaf eo ek 9999
                        simp only [hf] at h
                        refine fin _ _ (ents.modify n fun e=>{ e with key:=η k,val:=η v }) clock ?_ h ⟨hst1,by refine Eq.trans (born_modify _ _ _ ?_) hst2;intro _;rfl⟩ (by simp [h5]) ?_
                        · simp [execOp,ho,Instr.mapUpdate,run_underlying h1,hmv,run_getObj_map h4,hck,hr1,Instr.keyThatStays,hen,hsb,setObj,Sem.run,h4]
                        · intro j kk vw e hj' he
                          rw [Array.getElem?_modify] at he
                          rw [List.getElem?_set] at hj'
                          split at he
                          · rename_i hnj
                            subst hnj
                            rw [if_pos rfl,if_pos (by omega)] at hj'
                            simp only [Option.some.injEq,Prod.mk.injEq] at hj'
                            obtain ⟨rfl,rfl⟩:=hj'
                            rw [hen] at he
                            simp only [Option.map_some,Option.some.injEq] at he
                            subst he
                            exact ⟨ek,ev⟩
                          · rename_i hnj
                            rw [if_neg hnj] at hj'
                            exact h6 j kk vw e hj' he
              · cases h
            · cases h
          · cases h
        · cases h
      · cases hc
    · cases hc
  · cases hc
theorem g_mapEntry {t:TypeId} {m k:Operand} (ho:o.op = .mapEntry t m k) (hc:cOp P gt (.mapEntry t m k) = some hop):Good P gt η o H L w u H':=by
  simp only [cOp] at hc
  split at hc
  · rename_i kt vt m' k' h1 h2 h3
    split at hc
    · rename_i ka va z hka hz
      split at hc
      · rename_i ks hks
        simp only [Option.some.injEq] at hc
        subst hc
        simp only [stepOp] at h
        split at h
        · rename_i i kv hm hk
          have vm:=R m m' _ h2 hm
          have vk:=R k k' _ h3 hk
          split at h
          · rename_i hagg
            split at h
            · rename_i ka' va' es st key hoj hkey
              have hes:H.map? i = some (ka',va',es):=by unfold St.map?;rw [hoj]
              split at h
              · rename_i hcond
                obtain ⟨rfl,rfl,hkl⟩:=hcond
                have ek:=key_entry vk hagg hkey
                obtain ⟨X,dX,pX⟩:=entry_part ek hka
                have hck:∀ e,(Instr.checkKey e 10000 kt (η k)).run P w = .ok () w:=fun e=>checkKey_sound (P:=P) L.I w e 20 kt ks hks 9980 key X (η k) dX hkl pX
                obtain ⟨zi,zv,hzi,hzv,hze⟩:=zeroE_rel (P:=P) (L:=L) (w:=w) hz
                have hzr:=run_zeroValue (P:=P) hzi hzv w
                rcases map_rel (ka0:=ka') (va0:=va') S vm (by simpa [St.mapOf] using hes) with ⟨hmv,_⟩ | ⟨o',b,ents,clock,hoo,hmv,hb,⟨st0,ho',hst1,hst2⟩,h4,h5,h6⟩
                · rw [hmv] at vm;cases vm
                · simp only [HV.map.injEq] at hoo
                  subst hoo
                  rw [hoj] at ho'
                  simp only [Option.some.injEq,Obj.map.injEq,true_and] at ho'
                  subst ho'
                  cases hf:findKey ks key es 0 with
                  | none=>simp [hf] at h
                  | some r=>
                    obtain ⟨r',hr1,hr2⟩:=findKey_sound (P:=P) (va:=va') hks hka ek es ents.toList r (by simp [h5]) (fun j k v e hj he=>h6 j k v e hj (by simpa using he)) hf
                    have fin:∀ (es':List (List D × List D)) (st':List Nat × Nat) (ents':Array MapEntry) (clock':Nat) (x:HV) (y:Value) (n:Nat),(execOp η o).run P w = .ok (.value (.tuple #[y,.int .i64 n])) { w with heap:=w.heap.setIfInBounds b (.map ents' clock') } →
                        some (HV.tup [x,.d (.int .i64 n)],H.setObj i (.map ka' va' es' st')) = some (u,H')→VRel L H.tips w x y→clock' = st'.2 ∧ ents'.toList.map (·.born) = st'.1→ents'.size = es'.length →
                        (∀ (j:Nat) (k v:List D) (e:MapEntry),es'[j]? = some (k,v)→ents'[j]? = some e→EntryRel L.I w ka' k e.key ∧ EntryRel L.I w va' v e.val)→Good P gt η o H L w u H':=by
                      intro es' st' ents' clock' x y n hrun hh hxy hst hsz hall
                      simp only [Option.some.injEq,Prod.mk.injEq] at hh
                      obtain ⟨rfl,rfl⟩:=hh
                      have q:=OneBlock.setHeap w b (.map ents' clock')
                      have g:=(q.ext (tips:=H.tips) (L:=L) (S.objI i b hb).1 (S.young b (.inl ⟨i,hb⟩)) 0).grow
                      obtain ⟨e1,e2⟩:=S.setObj hb q (.map ka' va' es' st') ⟨ents',clock',setHeap_at h4,hst,hsz,fun j k v e h1 h2=>⟨(hall j k v e h1 h2).1.grow g,(hall j k v e h1 h2).2.grow g⟩⟩ L.φ.length
                      exact ⟨.value _,_,_,L,hrun,.inl rfl,e1,e2,.tup _ [_,_] (.cons _ _ _ _ (hxy.move e1.stays) (.cons _ _ _ _ (.d _ _ (.int _ _)) .nil))⟩
                    cases r with
                    | none=>
                      cases r' with
                      | some _=>exact hr2.elim
                      | none=>
                        simp only [hf] at h
                        split at h
                        · rename_i x hx
                          refine fin _ _ (ents.push { key:=η k,val:=zv,born:=clock }) (clock + 1) x zv st.2 ?_ h (entry_val hze hx) ⟨by rw [hst1],by simp [hst1,hst2]⟩ (by simp [h5]) ?_
                          · simp [execOp,ho,Instr.mapEntry,run_underlying h1,hmv,run_getObj_map h4,hck,hr1,hzr,setObj,Sem.run,h4,hst1,goInt]
                          · intro j kk vw e hj he
                            rcases Nat.lt_or_ge j es.length with hlt | hge
                            · rw [List.getElem?_append_left hlt] at hj
                              rw [Array.getElem?_push_lt (by omega)] at he
                              exact h6 j kk vw e hj (by rw [Array.getElem?_eq_getElem (by omega)];exact he)
                            · have hj0:=hj
                              rw [List.getElem?_append_right hge] at hj
                              have:j = es.length:=by have:=lt_of_getElem? hj0;simp at this;omega
                              subst this
                              simp only [Nat.sub_self,List.getElem?_cons_zero,Option.some.injEq,Prod.mk.injEq] at hj
                              obtain ⟨rfl,rfl⟩:=hj
                              rw [← h5] at he
                              simp only [Array.getElem?_push_size,Option.some.injEq] at he
                              subst he
                              exact ⟨ek,hze⟩
                        · cases h
                    | some p=>
                      obtain ⟨n,x⟩:=p
                      cases r' with
                      | none=>exact hr2.elim
                      | some q=>
                        obtain ⟨n',x'⟩:=q
                        obtain ⟨rfl,hxx⟩:=hr2
                        obtain ⟨_,j,hj,hce⟩:=findKey_at hf
                        simp only [Nat.sub_zero] at hj
                        obtain ⟨rfl,hleaf⟩:=cellsEq_true hce
                        have hnlt:n < ents.size:=by have:=lt_of_getElem? hj;omega
                        have hen:=Array.getElem?_eq_getElem hnlt
                        have eo:=h6 n _ _ _ hj hen
                        have hsb:Instr.sameBits 10000 ents[n].key (η k) = true:=sameBits_sound hleaf eo.1 ek 9999
                        simp only [hf] at h
                        split at h
                        · rename_i hv' bn hx hbn
                          have hb':ents[n].born = bn:=by
                            rw [← hst2] at hbn
                            simpa [hnlt] using hbn
                          refine fin _ _ (ents.modify n fun e=>{ e with key:=η k }) clock hv' x' bn ?_ h (entry_val hxx hx) ⟨hst1,by refine Eq.trans (born_modify _ _ _ ?_) hst2;intro _;rfl⟩ (by simp [h5]) ?_
                          · simp [execOp,ho,Instr.mapEntry,run_underlying h1,hmv,run_getObj_map h4,hck,hr1,Instr.keyThatStays,hen,hsb,setObj,Sem.run,h4,goInt,hb']
                          · intro j kk vw e hj' he
                            rw [Array.getElem?_modify] at he
                            rw [List.getElem?_set] at hj'
                            split at he
                            · rename_i hnj
                              subst hnj
                              rw [if_pos rfl,if_pos (by omega)] at hj'
                              simp only [Option.some.injEq,Prod.mk.injEq] at hj'
                              obtain ⟨rfl,rfl⟩:=hj'
                              rw [hen] at he
                              simp only [Option.map_some,Option.some.injEq] at he
                              subst he
                              exact ⟨ek,eo.2⟩
                            · rename_i hnj
                              rw [if_neg hnj] at hj'
                              exact h6 j kk vw e hj' he
                        · cases h
              · cases h
            · cases h
          · cases h
        · cases h
      · cases hc
    · cases hc
  · cases hc
theorem g_entryStore {t:TypeId} {m s v:Operand} (ho:o.op = .entryStore t m s v) (hc:cOp P gt (.entryStore t m s v) = some hop):Good P gt η o H L w u H':=by
  simp only [cOp] at hc
  split at hc
  · rename_i kt vt m' s' v' h1 h2 h3 h3'
    obtain ⟨va,hva,rfl⟩:=map_mk hc
    simp only [stepOp] at h
    split at h
    · rename_i i k0 n vv hm hs hv
      have vm:=R m m' _ h2 hm
      have vs:=R s s' _ h3 hs
      have vv':=R v v' _ h3' hv
      split at h
      · rename_i hagg
        split at h
        · rename_i ka' va' es st val hoj hval
          have hes:H.map? i = some (ka',va',es):=by unfold St.map?;rw [hoj]
          split at h
          · rename_i hvv
            subst hvv
            have ev:=key_entry vv' hagg hval
            rcases map_rel (ka0:=ka') (va0:=va') S vm (by simpa [St.mapOf] using hes) with ⟨hmv,_⟩ | ⟨o',b,ents,clock,hoo,hmv,hb,⟨st0,ho',hst1,hst2⟩,h4,h5,h6⟩
            · rw [hmv] at vm;cases vm
            · simp only [HV.map.injEq] at hoo
              subst hoo
              rw [hoj] at ho'
              simp only [Option.some.injEq,Obj.map.injEq,true_and] at ho'
              subst ho'
              split at h
              · rename_i j hj
                split at h
                · rename_i key old hkj
                  simp only [Option.some.injEq,Prod.mk.injEq] at h
                  obtain ⟨rfl,rfl⟩:=h
                  have hfi:ents.findIdx? (fun e=>(e.born:Int) == n) = some j:=by
                    rw [← hst2] at hj
                    rw [arr_findIdx]
                    simpa [List.findIdx?_map,Function.comp_def] using hj
                  have q:=OneBlock.setHeap w b (.map (ents.modify j fun e=>{ e with val:=η v }) clock)
                  have g:=(q.ext (tips:=H.tips) (L:=L) (S.objI i b hb).1 (S.young b (.inl ⟨i,hb⟩)) 0).grow
                  have hall:∀ (jj:Nat) (kk vw:List D) (e:MapEntry),(es.set j (key,val))[jj]? = some (kk,vw)→(ents.modify j fun e=>{ e with val:=η v })[jj]? = some e→EntryRel L.I w ka' kk e.key ∧ EntryRel L.I w va' vw e.val:=by
                    intro jj kk vw e hj' he
                    have hnlt:j < ents.size:=by have:=lt_of_getElem? hkj;omega
                    rw [Array.getElem?_modify] at he
                    rw [List.getElem?_set] at hj'
                    split at he
                    · rename_i hnj
                      subst hnj
                      rw [if_pos rfl,if_pos (by omega)] at hj'
                      simp only [Option.some.injEq,Prod.mk.injEq] at hj'
                      obtain ⟨rfl,rfl⟩:=hj'
                      have hen:=Array.getElem?_eq_getElem hnlt
                      rw [hen] at he
                      simp only [Option.map_some,Option.some.injEq] at he
                      subst he
                      exact ⟨(h6 j _ _ _ hkj hen).1,ev⟩
                    · rename_i hnj
                      rw [if_neg hnj] at hj'
                      exact h6 jj kk vw e hj' he
                  obtain ⟨e1,e2⟩:=S.setObj hb q (.map ka' va' (es.set j (key,val)) st) ⟨_,clock,setHeap_at h4,⟨hst1,by refine Eq.trans (born_modify _ _ _ ?_) hst2;intro _;rfl⟩,by simp [h5],fun j k v e h1 h2=>⟨(hall j k v e h1 h2).1.grow g,(hall j k v e h1 h2).2.grow g⟩⟩ L.φ.length
                  refine ⟨.skip,undef,_,L,?_,.inr ⟨rfl,rfl⟩,e1,e2,undef_rel⟩
                  have hsv:η s = .int k0 n:=by
                    generalize hq:η s = q at vs
                    cases vs with
                    | d _ _ hd=>cases hd;rfl
                  simp [execOp,ho,Instr.entryStore,hmv,run_getObj_map h4,hsv,asInt,asIntOf,hfi,setObj,Sem.run,h4]
                · cases h
              · cases h
          · cases h
        · cases h
      · cases h
    · cases h
  · cases hc
theorem g_delete {c:Call} {s:TypeId} {x y:Operand} {kt vt:TypeId} {ka:Bool} {ks:List LK} {x' y':HO} (ho:o.op = .call c) (hcal:c.callee = .builtin .delete) (hargs:c.args = #[x,y]) (hty:c.argTypes[0]? = some s)
    (h1:P.underlying s = some (.map kt vt)) (hka:tAgg P kt = some ka) (hks:flatN P 20 kt = some ks) (hx:cO gt x = some x') (hy:cO gt y = some y') (hh:hop = .delete ka ks x' y'):Good P gt η o H L w u H':=by
  have hrun:∀ w',(Builtin.delete_ c.argTypes o.type #[η x,η y]).run P w = .ok (.tuple #[]) w'→(execOp η o).run P w = .ok (.value (.tuple #[])) w':=by
    intro w' hr
    simp [execOp,ho,resolve,hcal,hargs,invoke,builtin,hr]
  subst hh
  simp only [stepOp] at h
  split at h
  · rename_i i kv hm hk
    have vm:=R x x' _ hx hm
    have vk:=R y y' _ hy hk
    split at h
    · rename_i hagg
      split at h
      · rename_i ka' va' es st key hoj hkey
        have hes:H.map? i = some (ka',va',es):=by unfold St.map?;rw [hoj]
        split at h
        · rename_i hcond
          obtain ⟨rfl,hkl⟩:=hcond
          have ek:=key_entry vk hagg hkey
          obtain ⟨X,dX,pX⟩:=entry_part ek hka
          have hck:∀ e,(Instr.checkKey e 10000 kt (η y)).run P w = .ok () w:=fun e=>checkKey_sound (P:=P) L.I w e 20 kt ks hks 9980 key X (η y) dX hkl pX
          rcases map_rel (ka0:=ka') (va0:=va') S vm (by simpa [St.mapOf] using hes) with ⟨hmv,_⟩ | ⟨o',b,ents,clock,hoo,hmv,hb,⟨st0,ho',hst1,hst2⟩,h4,h5,h6⟩
          · rw [hmv] at vm;cases vm
          · simp only [HV.map.injEq] at hoo
            subst hoo
            rw [hoj] at ho'
            simp only [Option.some.injEq,Obj.map.injEq,true_and] at ho'
            subst ho'
            cases hf:findKey ks key es 0 with
            | none=>simp [hf] at h
            | some r=>
              obtain ⟨r',hr1,hr2⟩:=findKey_sound (P:=P) (va:=va') hks hka ek es ents.toList r (by simp [h5]) (fun j k v e hj he=>h6 j k v e hj (by simpa using he)) hf
              have fin:∀ (es':List (List D × List D)) (st':List Nat × Nat) (ents':Array MapEntry),(Builtin.delete_ c.argTypes o.type #[η x,η y]).run P w = .ok (.tuple #[]) { w with heap:=w.heap.setIfInBounds b (.map ents' clock) } →
                  some (undefV,H.setObj i (.map ka' va' es' st')) = some (u,H')→clock = st'.2 ∧ ents'.toList.map (·.born) = st'.1→ents'.size = es'.length →
                  (∀ (j:Nat) (k v:List D) (e:MapEntry),es'[j]? = some (k,v)→ents'[j]? = some e→EntryRel L.I w ka' k e.key ∧ EntryRel L.I w va' v e.val)→Good P gt η o H L w u H':=by
                intro es' st' ents' hdel hh hst hsz hall
                simp only [Option.some.injEq,Prod.mk.injEq] at hh
                obtain ⟨rfl,rfl⟩:=hh
                have q:=OneBlock.setHeap w b (.map ents' clock)
                have g:=(q.ext (tips:=H.tips) (L:=L) (S.objI i b hb).1 (S.young b (.inl ⟨i,hb⟩)) 0).grow
                obtain ⟨e1,e2⟩:=S.setObj hb q (.map ka' va' es' st') ⟨ents',clock,setHeap_at h4,hst,hsz,fun j k v e h1 h2=>⟨(hall j k v e h1 h2).1.grow g,(hall j k v e h1 h2).2.grow g⟩⟩ L.φ.length
                exact ⟨.value (.tuple #[]),.tuple #[],_,L,hrun _ hdel,.inl rfl,e1,e2,.tup [] [] .nil⟩
              cases r with
              | none=>
                cases r' with
                | some _=>exact hr2.elim
                | none=>
                  simp only [hf] at h
                  refine fin _ _ ents ?_ h ⟨hst1,hst2⟩ h5 h6
                  simp [Builtin.delete_,hty,run_underlying h1,hmv,run_getObj_map h4,hck,hr1,setObj,Sem.run,h4]
              | some p=>
                obtain ⟨n,z⟩:=p
                cases r' with
                | none=>exact hr2.elim
                | some q=>
                  obtain ⟨n',z'⟩:=q
                  obtain ⟨rfl,hxx⟩:=hr2
                  obtain ⟨_,j,hj,hce⟩:=findKey_at hf
                  simp only [Nat.sub_zero] at hj
                  have hnlt:n < ents.size:=by have:=lt_of_getElem? hj;omega
                  simp only [hf] at h
                  refine fin _ _ (ents.eraseIdxIfInBounds n) ?_ h ⟨hst1,by rw [← hst2];simp [Array.eraseIdxIfInBounds,hnlt,map_erase]⟩ (by simp [Array.eraseIdxIfInBounds,h5,List.length_eraseIdx,(show n < es.length by omega)]) ?_
                  · simp [Builtin.delete_,hty,run_underlying h1,hmv,run_getObj_map h4,hck,hr1,setObj,Sem.run,h4]
                  · intro j kk vw e hj' he
                    simp only [Array.eraseIdxIfInBounds,hnlt,dif_pos] at he
                    rw [Array.getElem?_eraseIdx] at he
                    rw [List.getElem?_eraseIdx] at hj'
                    split at he
                    · rename_i hlt
                      rw [if_pos hlt] at hj'
                      exact h6 _ kk vw e hj' he
                    · rename_i hlt
                      rw [if_neg hlt] at hj'
                      exact h6 _ kk vw e hj' he
        · cases h
      · cases h
    · cases h
  · cases h
omit S R h in
structure SrcOf (P:Program) (L:Lay) (w:World) (v:Value) (ys:List (List D)) (sz:Nat) (vals:List Value):Prop where
  all:∀ r ∈ ys,r.length = sz
  len:∀ w',(Builtin.lenOf v).run P w' = .ok ys.length w'
  dc:DCells L.I w ys.flatten vals
  cells:∀ (n:Nat) (w':World),n ≤ ys.length→SameMem w w'→(Builtin.firstCells sz n v).run P w' = .ok (vals.take (n * sz)).toArray w'
  lies:∀ b off n c,v = .slice (some ⟨b,off,none⟩) n c→∀ (j:Nat) (q:Value),vals[j]? = some q→w.cell? ⟨b,off + j,none⟩ = some q
omit R h in
theorem src_of {x:HV} {v:Value} {sz:Nat} {ys:List (List D)} (hv:VRel L H.tips w x v) (h:H.rows x sz = some ys):∃ vals,SrcOf P L w v ys sz vals:=by
  rcases rows_sound S hv h with ⟨s,rfl,rfl,rfl,rfl⟩ | ⟨hall,a,cap,vals,rfl,hcap,hdc,hcell⟩
  · refine ⟨s.map fun b=>.int .u8 b.toNat,?_,?_,⟨?_,?_⟩,?_,fun _ _ _ _ h=>by cases h⟩
    · intro r hr
      obtain ⟨b,_,rfl⟩:=List.mem_map.1 hr
      rfl
    · intro w';simp [Builtin.lenOf,size_mk]
    · rw [flatten_len (sz:=1) (by intro r hr;obtain ⟨b,_,rfl⟩:=List.mem_map.1 hr;rfl)];simp
    · intro k x v hx hv
      have:(s.map fun b=>[D.int .u8 (b.toNat:Int)]).flatten = s.map fun b=>D.int .u8 b.toNat:=by
        clear hx
        clear hv
        clear hv h
        induction s with
        | nil=>rfl
        | cons b s ih=>simp only [List.map_cons,List.flatten_cons,ih];rfl
      rw [this] at hx
      rw [List.getElem?_map] at hx hv
      cases hk:s[k]? with
      | none=>rw [hk] at hx;cases hx
      | some b=>rw [hk] at hx hv;cases hx;cases hv;exact .int _ _
    · intro n w' hn _
      simp only [List.length_map] at hn
      simp only [Builtin.firstCells,Sem.run_pure,Nat.mul_one]
      congr 1
      apply Array.ext'
      have:(ByteArray.extract ⟨s.toArray⟩ 0 n).data = (s.take n).toArray:=by
        rw [ByteArray.data_extract]
        apply Array.ext'
        simp
      rw [Array.toList_map,this]
      simp
  · refine ⟨vals,hall,fun w'=>by simp [Builtin.lenOf],hdc,?_,?_⟩
    rotate_left
    · rintro b off n c hv j q hq
      cases hv
      rcases hcell with rfl | ⟨b',off',ha,hc⟩
      · have:=hdc.1
        have:=lt_of_getElem? hq
        simp at *
        omega
      · cases ha
        exact hc j q hq
    intro n w' hn sm
    have hl:=hdc.1
    rw [flatten_len hall] at hl
    cases a with
    | none=>
      rcases hcell with rfl | ⟨b,off,ha,_⟩
      · have:n = 0:=by simpa using hn
        subst this
        simp [Builtin.firstCells]
      · cases ha
    | some p=>
      rcases hcell with rfl | ⟨b,off,ha,hc⟩
      · have:n = 0:=by simpa using hn
        subst this
        simp [Builtin.firstCells,loadCells,loadCellsFrom]
      · cases ha
        refine run_firstCells_some w' sz n ⟨b,off,none⟩ _ _ (vals.take (n * sz)) ?_ ?_
        · rw [List.length_take,← hl]
          exact Nat.min_eq_left (Nat.mul_le_mul_right _ hn)
        · intro j q hj
          rw [List.getElem?_take] at hj
          split at hj
          · rw [Addr.add_lit,sm.cell];exact hc j q hj
          · cases hj
omit S R h in
theorem DCells.take {I:Nat→Nat} {as:List D} {X:List Value} (h:DCells I w as X) (n:Nat):DCells I w (as.take n) (X.take n):=by
  simpa using h.sub 0 n
omit S R h in
theorem drel_one {I:Nat→Nat} {x:D} {v:Value} (h:DRel I w x v):v.oneCell' = true:=by cases h <;> rfl
omit S R h in
theorem DCells.one {I:Nat→Nat} {as:List D} {X:List Value} (h:DCells I w as X):∀ v ∈ X,v.oneCell' = true:=by
  intro v hv
  obtain ⟨k,hk⟩:=List.mem_iff_getElem?.1 hv
  have:=lt_of_getElem? hk
  exact drel_one (h.2 k _ v (List.getElem?_eq_getElem (by rw [h.1];exact this)) hk)
theorem g_copy {c:Call} {s e:TypeId} {sz:Nat} {x y:Operand} {x' y':HO} (ho:o.op = .call c) (hcal:c.callee = .builtin .copy) (hargs:c.args = #[x,y]) (hty:c.argTypes[0]? = some s)
    (h1:P.underlying s = some (.slice e)) (h2:tSize P e = some sz) (hx:cO gt x = some x') (hy:cO gt y = some y') (hh:hop = .copy sz x' y'):Good P gt η o H L w u H':=by
  have hrun:∀ v w',(Builtin.copy_ c.argTypes o.type #[η x,η y]).run P w = .ok v w'→(execOp η o).run P w = .ok (.value v) w':=by
    intro v w' hr
    simp [execOp,ho,resolve,hcal,hargs,invoke,builtin,hr]
  obtain ⟨ti,hi,hin,hn0⟩:=size_inv h2
  subst hh
  simp only [stepOp] at h
  split at h
  · rename_i i off len s' b hv hb
    split at h
    · rename_i hs
      subst hs
      split at h
      · rename_i ys hys
        obtain ⟨H'',hw,hp⟩:=map_mk h
        simp only [Prod.mk.injEq] at hp
        obtain ⟨rfl,rfl⟩:=hp
        have vx:=R x x' _ hx hv
        obtain ⟨vals,hsrc⟩:=src_of (P:=P) S (R y y' _ hy hb) hys
        generalize hη:η x = vx' at vx
        cases vx with
        | row _ _ _ _ bb cap hbb hcap=>
          have hmin:Nat.min ys.length len ≤ ys.length:=Nat.min_le_left _ _
          have hd:=hsrc.dc.take (Nat.min ys.length len * s')
          rw [← flatten_take hsrc.all] at hd
          have htk:ys.take (Nat.min ys.length len) = ys.take len:=by
            rcases Nat.le_total ys.length len with hle | hle
            · have e:Nat.min ys.length len = ys.length:=Nat.min_eq_left hle
              rw [e,List.take_of_length_le (Nat.le_refl _),List.take_of_length_le hle]
            · have e:Nat.min ys.length len = len:=Nat.min_eq_right hle
              rw [e]
          rw [htk] at hd
          obtain ⟨b',off',w',hp',hst,e1,e2⟩:=write_sound (P:=P) (a:=.ref i off) (p:=.pointer (some ⟨bb,off,none⟩)) S (.ref _ _ _ hbb) (VRels.mk_dcells hd.1 hd.2) hd.one hw
          cases hp'
          refine ⟨.value (.int .i64 (min ys.length len:Nat)),_,w',L,hrun _ _ ?_,.inl rfl,e1,e2,.d _ _ (.int _ _)⟩
          rw [hη]
          simp [Builtin.copy_,hty,run_underlying h1,hsrc.len,run_sizeOf hi,hin,hsrc.cells _ w hmin (.refl w),hst,goInt]
      · cases h
    · cases h
  · rename_i b hv hb
    split at h
    · rename_i ys hys
      simp only [Option.some.injEq,Prod.mk.injEq] at h
      obtain ⟨rfl,rfl⟩:=h
      have vx:=R x x' _ hx hv
      obtain ⟨vals,hsrc⟩:=src_of (P:=P) S (R y y' _ hy hb) hys
      generalize hη:η x = vx' at vx
      cases vx with
      | d _ _ hd=>
        have hz:∃ a cap,vx' = .slice a 0 cap:=by
          rcases drel_sl.1 hd with ⟨_,a,cap,h⟩ | ⟨b,off,cap,_,h,_⟩
          · exact ⟨_,_,h⟩
          · exact ⟨_,_,h⟩
        obtain ⟨a,cap,rfl⟩:=hz
        refine .same S (hrun _ _ ?_) (.d _ _ (.int _ _))
        rw [hη]
        have hmin:Nat.min ys.length 0 = 0:=Nat.min_eq_right (Nat.zero_le _)
        have hc:=hsrc.cells 0 w (Nat.zero_le _) (.refl w)
        cases a <;> simp [Builtin.copy_,hty,run_underlying h1,hsrc.len,run_sizeOf hi,hin,hc,goInt,storeCells]
    · cases h
  · cases h
end
end
end Am
