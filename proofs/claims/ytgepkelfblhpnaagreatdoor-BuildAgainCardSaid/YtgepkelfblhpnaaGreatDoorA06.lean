/- A part of the proof of BuildAgain: no condition of its own. Whence: AmOps6. -/
import Derived.Test.YtgepkelfblhpnaaGreatDoorA05
set_option linter.all false
namespace Am
open Go
section
variable {P:Program} {gt:Nat→Option (List D)} {L:Lay} {H H':St} {w:World} {η:Operand→Value} {ρ:HO→Option HV} {o:Oper} {u:HV} {hop:HOp} {call:CallT} {tips:List Nat}
theorem good_newObj (S:Sim gt H L w) (q:Go.Obj) (x:Obj) (hx:ObjRel L H.tips (w.alloc q) w.heap.size x) {v:Value}
    (hr:(execOp η o).run P w = .ok (.value v) (w.alloc q)) (hv:∀ L':Lay,L'.φ[H.objs.length]? = some (some w.heap.size)→VRel L' (H.alloc x).tips (w.alloc q) u v):Good P gt η o H L w u (H.alloc x):=by
  obtain ⟨L',h1,h2,h3,_,_⟩:=S.newObj (NewBlock.alloc w q) x L.φ.length (Nat.le_refl _) hx
  exact ⟨_,v,_,L',hr,.inl rfl,h1,h2,hv L' h3⟩
theorem Sim.staysAlloc (S:Sim gt H L w) (q:Go.Obj) (tips:List Nat):Stays L tips w L tips (w.alloc q):=
  ⟨⟨fun _=>Nat.le_refl _,(S.growsAlloc (NewBlock.alloc w q) 0).keep⟩,fun _ _ h=>h,fun _ k h=>⟨k,h,Nat.le_refl _,fun _=>rfl⟩,rfl⟩
section
variable (S:Sim gt H L w) (R:Opnds gt L H.tips w η ρ) (h:stepOp call ρ H hop = some (u,H'))
include S R h
omit R in
theorem g_alloc {t:TypeId} (ho:o.op = .alloc t) (hc:(tZero P t).map HOp.alloc = some hop):Good P gt η o H L w u H':=by
  obtain ⟨z,hz,rfl⟩:=map_mk hc
  simp only [stepOp,Option.some.injEq,Prod.mk.injEq] at h
  obtain ⟨rfl,rfl⟩:=h
  obtain ⟨i,zv,hi,hzv,hzr⟩:=zero_rel (P:=P) (L:=L) (tips:=H.tips) (w:=w.alloc (.cells #[] 0)) hz
  have hzr':∀ w',VRels L H.tips w' z zv.cells.toList:=fun w'=>by
    obtain ⟨i',zv',hi',hzv',hzr'⟩:=zero_rel (P:=P) (L:=L) (tips:=H.tips) (w:=w') hz
    rw [hi] at hi';cases hi';rw [hzv] at hzv';cases hzv';exact hzr'
  refine good_newObj S (.cells zv.cells t) (.cells z) ⟨zv.cells,t,.of (heap_alloc_new w _),hzr' _⟩ (v:=.pointer (some ⟨w.heap.size,0,none⟩)) ?_ fun L' hL=>.ref _ _ _ hL
  simp [execOp,ho,Instr.alloc,run_zeroValue hi hzv,newVar,newRow]
theorem g_box {t:TypeId} {x:Operand} (ho:o.op = .box t x) (hc:cOp P gt (.box t x) = some hop):Good P gt η o H L w u H':=by
  simp only [cOp] at hc
  split at hc
  · rename_i n x' h1 h2
    simp only [Option.some.injEq] at hc
    subst hc
    simp only [stepOp] at h
    split at h
    · rename_i v hv
      split at h
      · simp only [Option.some.injEq,Prod.mk.injEq] at h
        obtain ⟨rfl,rfl⟩:=h
        have hx:=R x x' _ h2 hv
        refine good_newObj S (.cells (η x).cells t) (.cells v.cells) ⟨(η x).cells,t,.of (heap_alloc_new w _),?_⟩ (v:=.pointer (some ⟨w.heap.size,0,none⟩)) ?_ fun L' hL=>.ref _ _ _ hL
        · exact (hx.move (S.staysAlloc _ _)).cells
        · simp [execOp,ho,Instr.box,newVar,newRow]
      · cases h
    · cases h
  · cases hc
theorem g_makeMap {t:TypeId} {r:Option Operand} (ho:o.op = .makeMap t r) (hc:cOp P gt (.makeMap t r) = some hop):Good P gt η o H L w u H':=by
  simp only [cOp] at hc
  split at hc
  · rename_i kt vt r' h1 h2
    split at hc
    · rename_i ka va hka hva
      simp only [Option.some.injEq] at hc
      subst hc
      simp only [stepOp] at h
      split at h
      · rename_i n hn
        simp only [Option.some.injEq,Prod.mk.injEq] at h
        obtain ⟨rfl,rfl⟩:=h
        refine good_newObj S (.map #[] 0) (.map ka va [] ([],0)) ⟨#[],0,heap_alloc_new w _,⟨rfl,rfl⟩,rfl,fun i k v e hi=>by simp at hi⟩ (v:=.map (some w.heap.size)) ?_ fun L' hL=>.map _ _ hL
        rcases bnd_inv R h2 hn with ⟨rfl,_⟩ | ⟨x,k,rfl,hx⟩
        · simp [execOp,ho,Instr.makeMap]
        · simp [execOp,ho,Instr.makeMap,run_underlying h1,hx,asInt,asIntOf]
      · cases h
    · cases hc
  · cases hc
theorem g_range {t:TypeId} {x:Operand} (ho:o.op = .range t x) (hc:cOp P gt (.range t x) = some hop):Good P gt η o H L w u H':=by
  simp only [cOp] at hc
  split at hc
  · rename_i x' h1 h2
    simp only [Option.some.injEq] at hc
    subst hc
    simp only [stepOp] at h
    split at h
    · rename_i s hs
      simp only [Option.some.injEq,Prod.mk.injEq] at h
      obtain ⟨rfl,rfl⟩:=h
      have hx:=(R x x' _ h2 hs).str_inv
      refine good_newObj S (.stringIter ⟨s.toArray⟩ 0) (.iter s 0) (heap_alloc_new w _) (v:=.pointer (some ⟨w.heap.size,0,none⟩)) ?_ fun L' hL=>.ref _ _ _ hL
      simp [execOp,ho,Instr.range,run_underlying h1,hx]
    · cases h
  · cases hc
omit R in
theorem g_nilTok (ho:∃ x,(o.op = .move x ∨ o.op = .assign x) ∧ η x = .slice none 0 0) (hh:hop = .nilTok):Good P gt η o H L w u H':=by
  subst hh
  simp only [stepOp,Option.some.injEq,Prod.mk.injEq] at h
  obtain ⟨rfl,rfl⟩:=h
  obtain ⟨x,ho,hx⟩:=ho
  refine ⟨.value (.slice none 0 0),.slice none 0 0,w,L.addTip none,?_,.inl rfl,?_,S.addTip 0 none rfl,?_⟩
  · rcases ho with ho | ho <;> simp [execOp,ho,hx]
  · exact {
      grow:=.refl _ _
      φ:=fun _ _=>rfl
      tips:=fun t k' h=>⟨k',by rw [List.getElem?_append_left (lt_of_getElem? h)];exact h,Nat.le_refl _,fun _=>by
        simp only [Lay.addTip]
        rw [List.getElem?_append_left (by rw [S.ntip];exact lt_of_getElem? h)]⟩
      size:=Nat.le_refl _
      tape:=rfl
      os:=rfl
      output:=rfl
      drawn:=Nat.le_refl _
      old:=fun _ _=>rfl
      base:=rfl
      pc:=fun _ _=>rfl }
  · refine .own _ _ _ (.sl0 _ _) ⟨0,by simp,Nat.le_refl _,fun _=>⟨none,?_,by exact ⟨rfl,none,rfl⟩⟩⟩
    simp only [Lay.addTip]
    rw [← S.ntip,List.getElem?_append_right (Nat.le_refl _)]
    simp
omit R h S in
theorem DCells.append {I:Nat→Nat} {a b:List D} {X Y:List Value} (h:DCells I w a X) (h':DCells I w b Y):DCells I w (a ++ b) (X ++ Y):=by
  refine ⟨by simp [h.1,h'.1],fun k x v hx hv=>?_⟩
  rcases Nat.lt_or_ge k a.length with hk | hk
  · rw [List.getElem?_append_left hk] at hx
    rw [List.getElem?_append_left (by rw [← h.1];exact hk)] at hv
    exact h.2 k x v hx hv
  · rw [List.getElem?_append_right hk] at hx
    rw [List.getElem?_append_right (by rw [← h.1];exact hk),← h.1] at hv
    exact h'.2 _ x v hx hv
omit R h S in
theorem DCells.flatten {I:Nat→Nat}:∀ {rows:List (List D)} {X:List (List Value)},rows.length = X.length→(∀ (k:Nat) (r:List D),rows[k]? = some r→∃ x,X[k]? = some x ∧ DCells I w r x)→DCells I w rows.flatten X.flatten
  | [],[],_,_=>⟨rfl,fun k x v hx=>by simp at hx⟩
  | r :: rows,x :: X,hl,h=>by
    obtain ⟨x',hx',hd⟩:=h 0 r rfl
    simp at hx'
    subst hx'
    simpa using hd.append (DCells.flatten (rows:=rows) (X:=X) (by simpa using hl) fun k r hr=>by simpa using h (k + 1) r (by simpa using hr))
  | [],_ :: _,hl,_=>by simp at hl
  | _ :: _,[],hl,_=>by simp at hl
omit R h S in
theorem good_newArr (S:Sim gt H L w) {cs:Array Value} {elem:TypeId} {fz:Nat × Nat} {rows:List (List D)} {sz:Nat} {w':World} (hu:u = .own rows .exact ∨ u = .d (.sl rows)) (nb:NewBlock w w' (.cells cs elem fz)) (cap:Nat) (hcap:rows.length ≤ cap) (hex:u = .own rows .exact→cap = rows.length)
    (hall:∀ r ∈ rows,r.length = sz) (hd:DCells L.I w rows.flatten (cs.toList.take rows.flatten.length))
    (hr:(execOp η o).run P w = .ok (.value (.slice (some ⟨w.heap.size,0,none⟩) rows.length cap)) w'):Good P gt η o H L w u H:=by
  have e1:=S.extAlloc (tips:=H.tips) nb rows.flatten.length L.φ.length
  have S1:=S.alloc nb rows.flatten.length
  have hdr:DRel (L.withI w.heap.size rows.flatten.length).I w' (.sl rows) (.slice (some ⟨w.heap.size,0,none⟩) rows.length cap):=by
    refine drel_sl.2 (.inr ⟨w.heap.size,0,cap,sz,rfl,hcap,hall,?_,fun k x hx=>?_⟩)
    · simp [Lay.withI]
    · have hk:=lt_of_getElem? hx
      have hl:k < (cs.toList.take rows.flatten.length).length:=by rw [← hd.1];exact hk
      refine ⟨_,?_,(hd.2 k x _ hx (List.getElem?_eq_getElem hl)).grow e1.grow⟩
      rw [cell_of_row _ _ _ cs elem fz nb.new]
      simp only [Nat.zero_add]
      rw [List.getElem_take]
      simp at hl ⊢
  refine ⟨_,_,_,_,hr,.inl rfl,e1,S1,?_⟩
  rcases hu with rfl | rfl
  · exact .own _ _ _ hdr ⟨_,by rw [hex rfl],fun p hp=>by cases hp;exact S.baseLe⟩
  · exact .d _ _ hdr
omit R h S in
theorem fill_row {sz:Nat}:∀ (vals:List Value) (k:Nat) (C:Array Value),(∀ v ∈ vals,v.cells.size = sz)→(k + vals.length) * sz ≤ C.size →
    Instr.fill (fun i=>some (i * sz,sz)) C ((List.range' k vals.length).zip vals) = some (C.toList.take (k * sz) ++ (vals.map fun v=>v.cells.toList).flatten ++ C.toList.drop ((k + vals.length) * sz)).toArray
  | [],k,C,_,_=>by simp [Instr.fill]
  | v :: vals,k,C,hv,hle=>by
    have h0:=hv v (by simp)
    simp only [List.length_cons] at hle
    have e1:(k + (vals.length + 1)) * sz = k * sz + sz + vals.length * sz:=by rw [← Nat.add_assoc,Nat.add_right_comm,Nat.add_mul,Nat.succ_mul]
    have hle':k * sz + v.cells.size ≤ C.size:=by rw [h0];omega
    have hC:(C.toList.take (k * sz) ++ v.cells.toList ++ C.toList.drop (k * sz + v.cells.size)).length = C.size:=by
      simp only [List.length_append,List.length_take,List.length_drop,Array.length_toList]
      omega
    have ih:=fill_row vals (k + 1) (C.toList.take (k * sz) ++ v.cells.toList ++ C.toList.drop (k * sz + v.cells.size)).toArray (fun x hx=>hv x (by simp [hx])) (by
      rw [List.size_toArray,hC,Nat.add_mul,Nat.succ_mul];omega)
    simp only [List.length_cons,List.range'_succ,List.zip_cons_cons,Instr.fill]
    rw [if_neg (by simp [h0];omega),fold_cells _ _ _ hle',ih]
    congr 1
    simp only [List.map_cons,List.flatten_cons]
    have hk1:(k + 1) * sz = k * sz + sz:=Nat.succ_mul k sz
    have hlt:(C.toList.take (k * sz)).length = k * sz:=by simp;omega
    have hvl:v.cells.toList.length = sz:=by simpa using h0
    have t1:(C.toList.take (k * sz) ++ v.cells.toList ++ C.toList.drop (k * sz + v.cells.size)).take ((k + 1) * sz) = C.toList.take (k * sz) ++ v.cells.toList:=by
      rw [hk1,List.take_append_of_le_length (by rw [List.length_append,hlt,hvl];omega),List.take_of_length_le (by rw [List.length_append,hlt,hvl];omega)]
    have t2:(C.toList.take (k * sz) ++ v.cells.toList ++ C.toList.drop (k * sz + v.cells.size)).drop ((k + 1 + vals.length) * sz) = C.toList.drop ((k + (vals.length + 1)) * sz):=by
      have e2:(k + 1 + vals.length) * sz = k * sz + sz + vals.length * sz:=by rw [Nat.add_mul,hk1]
      rw [e2,List.drop_append,List.drop_eq_nil_of_le (by rw [List.length_append,hlt,hvl];omega),List.nil_append,List.drop_drop,List.length_append,hlt,hvl,h0,e1]
      congr 1
      omega
    rw [show ∀ l:List Value,l.toArray.toList = l from fun _=>rfl,t1,t2]
    simp [List.append_assoc]
omit R h S in
theorem run_buildSlice {t e:TypeId} {ti:TypeInfo} {n len:Nat} {zv:Value} (hu:P.underlying t = some (.slice e)) (hti:P.info? e = some ti) (htn:ti.size = n) (hzv:ti.zero = some zv) (hroom:len * n ≤ 65536)
    (parts:Array (Nat × Value)) (C:Array Value) (hf:∀ zero:Array Value,Instr.fill (fun i=>some (i * n,n)) ((Array.range (len * n)).map (zero[· % zero.size]!)) parts.toList = some C) :
    (Instr.buildSlice t len parts).run P w = .ok (.slice (some ⟨w.heap.size,0,none⟩) len len) (w.alloc (.cells C e)):=by
  have hle:¬ (len * n > 2 ^ 24):=by
    have:(65536:Nat) ≤ 2 ^ 24:=by decide
    omega
  have hzero:=run_zeroValue (P:=P) hti hzv w
  simp only [Instr.buildSlice,Sem.run_bind,run_underlying hu,Result.andThen_ok,run_sizeOf hti,htn]
  rw [if_neg hle]
  by_cases hz0:len * n = 0
  · rw [if_pos hz0]
    simp only [Sem.run_bind,Sem.run_pure,Result.andThen_ok]
    rw [hf #[]]
    simp [newRow]
  · rw [if_neg hz0]
    simp only [Sem.run_bind,Sem.run_pure,Result.andThen_ok,hzero]
    rw [hf zv.cells]
    simp [newRow]
theorem g_buildSlice {t:TypeId} {len:Nat} {ps:Array (Nat × Operand)} (ho:o.op = .buildSlice t len ps) (hc:cOp P gt (.buildSlice t len ps) = some hop):Good P gt η o H L w u H':=by
  simp only [cOp] at hc
  split at hc
  · rename_i e hu
    split at hc
    · rename_i n xs z hn hxs hz
      split at hc
      · rename_i hcond
        obtain ⟨hrange,hroom⟩:=hcond
        simp only [Option.some.injEq] at hc
        subst hc
        obtain ⟨ti,hti,htn,hn0⟩:=size_inv hn
        simp only [stepOp] at h
        split at h
        · rename_i rows hrows
          simp only [Option.some.injEq,Prod.mk.injEq] at h
          obtain ⟨rfl,rfl⟩:=h
          obtain ⟨i,zv,hi,hzv,hzr⟩:=zero_rel (P:=P) (L:=L) (tips:=H.tips) (w:=w) hz
          rw [hti] at hi;cases hi
          have hzero:=run_zeroValue (P:=P) hti hzv w
          obtain ⟨hl1,hk1⟩:=mapM_len hxs
          obtain ⟨hl2,hk2⟩:=mapM_len hrows
          have hpl:ps.toList.length = len:=by have:=congrArg List.length hrange;simpa using this
          have hrl:rows.length = len:=by rw [hl2,hl1,hpl]
          have hps:(ps.toList.map fun p=>(p.1,η p.2)) = (List.range len).zip (ps.toList.map fun p=>η p.2):=by
            rw [← hrange]
            clear hrange hxs hrows hk1 hk2 hl1 hl2 hpl ho
            generalize ps.toList = l
            induction l with
            | nil=>rfl
            | cons p l ih=>simp [ih]
          have hrow:∀ (k:Nat) (r:List D),rows[k]? = some r→∃ (p:Nat × Operand),ps.toList[k]? = some p ∧ r.length = n ∧ DCells L.I w r (η p.2).cells.toList:=by
            intro k r hr
            have hk:=lt_of_getElem? hr
            have hkp:k < ps.toList.length:=by omega
            have hp:=List.getElem?_eq_getElem hkp
            obtain ⟨y,hy1,hy2⟩:=hk1 k _ hp
            obtain ⟨r',hr1,hr2⟩:=hk2 k _ hy1
            rw [hr] at hr1;cases hr1
            split at hr2
            · rename_i v hv
              cases hd:toDs v.cells with
              | none=>simp [hd] at hr2
              | some ds=>
                simp only [hd,Option.bind_some] at hr2
                split at hr2
                · rename_i hdl
                  simp only [Option.some.injEq] at hr2
                  subst hr2
                  have hvr:=R _ _ _ hy2 hv
                  exact ⟨_,hp,hdl,hvr.cells.toDs hd⟩
                · cases hr2
            · cases hr2
          have hall:∀ r ∈ rows,r.length = n:=fun r hr=>by
            obtain ⟨k,hk⟩:=List.mem_iff_getElem?.1 hr
            obtain ⟨_,_,h1,_⟩:=hrow k r hk
            exact h1
          have hvsz:∀ v ∈ ps.toList.map (fun p=>η p.2),v.cells.size = n:=fun v hv=>by
            obtain ⟨k,hk⟩:=List.mem_iff_getElem?.1 hv
            rw [List.getElem?_map] at hk
            obtain ⟨p,hp,rfl⟩:=map_mk hk
            have hkl:k < rows.length:=by have:=lt_of_getElem? hp;omega
            obtain ⟨p',hp',h1,h2⟩:=hrow k _ (List.getElem?_eq_getElem hkl)
            rw [hp] at hp';cases hp'
            have:=h2.1
            rw [h1] at this
            simpa using this.symm
          have hflat:((ps.toList.map fun p=>η p.2).map fun v=>v.cells.toList).flatten.length = len * n:=by
            rw [flatten_len (sz:=n) (fun r hr=>by
              obtain ⟨v,hv,rfl⟩:=List.mem_map.1 hr
              simpa using hvsz v hv)]
            simp [hpl]
          have hfill':∀ zero:Array Value,Instr.fill (fun i=>some (i * n,n)) ((Array.range (len * n)).map (zero[· % zero.size]!)) ((List.range len).zip (ps.toList.map fun p=>η p.2)) = some ((ps.toList.map fun p=>η p.2).map fun v=>v.cells.toList).flatten.toArray:=by
            intro zero
            have hCs:((Array.range (len * n)).map (zero[· % zero.size]!)).size = len * n:=by simp
            have hfill:=fill_row (sz:=n) (ps.toList.map fun p=>η p.2) 0 _ hvsz (by rw [hCs];simp [hpl])
            rw [show List.range len = List.range' 0 (ps.toList.map fun p=>η p.2).length by rw [List.length_map,hpl,List.range_eq_range'],hfill]
            congr 1
            rw [List.drop_eq_nil_of_le (by simp [hpl])]
            simp
          refine good_newArr S (fz:=(0,0)) (cs:=((ps.toList.map fun p=>η p.2).map fun v=>v.cells.toList).flatten.toArray) (elem:=e) (.inl rfl) (NewBlock.alloc w _) rows.length (Nat.le_refl _) (fun _=>rfl) hall ?_ ?_
          · have hfl:=flatten_len hall
            have hd:=DCells.flatten (w:=w) (I:=L.I) (rows:=rows) (X:=(ps.toList.map fun p=>η p.2).map fun v=>v.cells.toList) (by simp [hrl,hpl]) (fun k r hr=>by
              obtain ⟨p,hp,_,h2⟩:=hrow k r hr
              exact ⟨(η p.2).cells.toList,by simp [hp],h2⟩)
            rw [List.take_of_length_le (by rw [hfl,hrl];exact Nat.le_of_eq hflat)]
            exact hd
          · rw [hrl]
            have hpsl:(ps.map fun p=>(p.1,η p.2)).toList = (List.range len).zip (ps.toList.map fun p=>η p.2):=by rw [Array.toList_map,hps]
            have hb:=run_buildSlice (P:=P) (w:=w) hu hti htn hzv hroom (ps.map fun p=>(p.1,η p.2)) _ (fun zero=>by rw [hpsl];exact hfill' zero)
            simp only [execOp,ho,Sem.run_bind]
            rw [show (Array.map (fun (x:Nat × Operand)=>(x.1,η x.2)) ps) = ps.map fun p=>(p.1,η p.2) from rfl,hb]
            rfl
        · cases h
      · cases hc
    · cases hc
  · cases hc
end
end
end Am
