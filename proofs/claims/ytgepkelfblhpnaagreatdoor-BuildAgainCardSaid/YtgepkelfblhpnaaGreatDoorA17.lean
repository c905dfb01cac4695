/- A part of the proof of BuildAgain: no condition of its own. Whence: AmHyb3. -/
import Derived.Test.YtgepkelfblhpnaaGreatDoorA16
set_option linter.all false
namespace Am
open Go
section
variable {g:Hg} {t t':List (Nat × Value)} {q q':List (Nat × Nat)} {e:Env} {H H':St} {L L':Lay} {w w':World} {a:Act} {Q:Exit→Act→World→Prop}
theorem Sim.staysNew {gt:Nat→Option (List D)} (S:Sim gt H L w) {x:Go.Obj} (nb:NewBlock w w' x) (tips:List Nat):Stays L tips w L tips w':=
  ⟨⟨fun _=>Nat.le_refl _,(S.growsAlloc nb 0).keep⟩,fun _ _ h=>h,fun _ k h=>⟨k,h,Nat.le_refl _,fun _=>rfl⟩,rfl⟩
theorem zeros_rel {P:Program} {gt:Nat→Option (List D)} (S:Sim gt H L w) {el:TypeId} {i:TypeInfo} {z:List HV} {zv:Value} {sz:Nat} (hz:tZero P el = some z) (hi:P.info? el = some i) (hzv:i.zero = some zv) (hzl:z.length = sz) (h0:0 < sz)
    (n:Nat) (C:List Value) (hC:C.length = n * sz) (hCv:∀ k,k < n * sz→C[k]? = some (zv.cells[k % zv.cells.size]!)) (tips:List Nat) (w':World):VRels L tips w' (List.replicate n z).flatten C:=by
  obtain ⟨i',zv',hi',hzv',hzr⟩:=zero_rel (P:=P) (L:=L) (tips:=tips) (w:=w') hz
  rw [hi] at hi';cases hi'
  rw [hzv] at hzv';cases hzv'
  have hzs:zv.cells.size = sz:=by have:=hzr.length;rw [hzl] at this;simpa using this.symm
  refine VRels.of ?_ fun k a b ha hbb=>?_
  · rw [flatten_len (sz:=sz) (fun r hr=>by rw [(List.mem_replicate.1 hr).2];exact hzl),hC]
    simp
  · have hlt:k < n * sz:=by have:=lt_of_getElem? hbb;omega
    rw [flat_rep hzl _ _ hlt] at ha
    obtain ⟨b',hb',hr⟩:=hzr.get _ ha
    rw [hCv k hlt] at hbb
    have hlt':k % sz < zv.cells.size:=by rw [hzs];exact Nat.mod_lt _ h0
    have:b = b':=by
      simp only [Option.some.injEq] at hbb
      rw [← hbb,hzs,getElem!_pos zv.cells (k % sz) hlt']
      simp [hlt'] at hb'
      exact hb'
    rw [this]
    exact hr
theorem HY.newRow (hy:HY g t q e H L w a) {d b n cap sz:Nat} {cs:Array Value} {el:TypeId} (hd:d < g.N) (nb:NewBlock w w' (.cells cs el)) (c:List HV) (hc:VRels L H.tips w' c cs.toList) (hb:b = w.heap.size) (hn:n ≤ cap) :
    ∃ L',HY g [(d,Value.slice (some ⟨b,0,none⟩) n cap)] [(H.objs.length,b)] (e.put (some d) (.row H.objs.length 0 n sz)) (H.alloc (.cells c)) L' w' (a.put (some d) (Value.slice (some ⟨b,0,none⟩) n cap)):=by
  subst hb
  obtain ⟨L',e1,S1,f1,_,_⟩:=hy.S.newObj nb (.cells c) H.objs.length (by rw [hy.S.nobj];exact Nat.le_refl _) ⟨cs,el,.of nb.new,hc⟩
  refine ⟨L',hy.put e1 S1 (.row _ _ _ _ _ _ f1 hn) (.alloc _ _) (fun x hx=>by cases hx;exact hd) (fun p hp=>?_) fun p hp=>?_⟩
  · simp only [List.mem_singleton] at hp
    subst hp
    exact put_eq (Nat.lt_of_lt_of_le hd hy.N)
  · simp only [List.mem_singleton] at hp
    subst hp
    exact ⟨by simp [St.alloc],f1⟩
theorem hw_make {ops:Array Oper} {hops:List HOper} (ro:RegionOk g.P g.gt g.N ops hops) (i m:Nat) {d x y n c sz:Nat} {kx ky:IntKind} {z:List HV} (hi:hops[i]? = some ⟨some d,.makeSlice sz z (.slot x) (.slot y),none,[]⟩)
    (hx:e.get x = some (.d (.int kx (n:Int)))) (hy':e.get y = some (.d (.int ky (c:Int)))) (hnc:n ≤ c) (hc:c ≤ 1073741824) (hz1:z.length = sz)
    (h:∀ b,HW g ops Q (i + 1) m [(d,Value.slice (some ⟨b,0,none⟩) n c)] [(H.objs.length,b)] (e.put (some d) (.row H.objs.length 0 n sz)) (H.alloc (.cells (List.replicate c z).flatten))):HW g ops Q i (m + 1) t q e H:=by
  refine hw_op ro i m hi rfl fun op ok L w a hy=>?_
  obtain ⟨s,el,ti,ho,hu,hsz,hz,hti,hby⟩:=make_inv ok.op
  obtain ⟨ti',hti',htn,hn0⟩:=size_inv hsz
  rw [hti] at hti';cases hti'
  obtain ⟨i',zv,hi',hzv,hzr⟩:=zero_rel (P:=g.P) (L:=L) (tips:=H.tips) (w:=w) hz
  rw [hti] at hi';cases hi'
  have hzs:zv.cells.size = sz:=by have:=hzr.length;rw [hz1] at this;simpa using this.symm
  have vx:=(hy.val hx).int_inv
  have vy:=(hy.val hy').int_inv
  have hd:op.dst = some d:=ok.dst.symm
  have hdN:d < g.N:=ok.lt d hd
  have hrun:=run_make (P:=g.P) w s el ti zv hu hti hzv kx ky (n:Int) (c:Int) (by omega) (by omega) (by
    have h1:(ti.bytes:Int) ≤ 65536:=by omega
    have h2:(ti.bytes:Int) * (c:Int) ≤ 65536 * (c:Int):=Int.mul_le_mul_of_nonneg_right h1 (by omega)
    omega) (by omega)
  rw [htn] at hrun
  simp only [Int.toNat_natCast] at hrun
  have nb:=NewBlock.alloc w (.cells (madeCells zv.cells (c * sz)) el)
  have hvr:=zeros_rel (P:=g.P) hy.S hz hti hzv hz1 (Nat.pos_of_ne_zero hn0) c (madeCells zv.cells (c * sz)).toList (by simp [madeCells]) (fun k hk=>by simp [madeCells,hk]) H.tips (w.alloc (.cells (madeCells zv.cells (c * sz)) el))
  obtain ⟨L',hy2⟩:=hy.newRow (sz:=sz) hdN nb _ hvr rfl hnc
  refine upon_of (v:=Value.slice (some ⟨w.heap.size,0,none⟩) n c) (w':=w.alloc (.cells (madeCells zv.cells (c * sz)) el)) (r:=.value (Value.slice (some ⟨w.heap.size,0,none⟩) n c)) (by simp [execOp,ho,vx,vy,hrun]) (.inl rfl) ?_
  rw [hd]
  exact h w.heap.size L' _ _ hy2
theorem hw_build {ops:Array Oper} {hops:List HOper} (ro:RegionOk g.P g.gt g.N ops hops) (i m:Nat) {d x sz:Nat} {u:HV} (hi:hops[i]? = some ⟨some d,.buildSlice sz [.slot x],none,[]⟩)
    (hx:e.get x = some u) (hul:u.cells.length = sz)
    (h:∀ b,HW g ops Q (i + 1) m [(d,Value.slice (some ⟨b,0,none⟩) 1 1)] [(H.objs.length,b)] (e.put (some d) (.row H.objs.length 0 1 sz)) (H.alloc (.cells u.cells))):HW g ops Q i (m + 1) t q e H:=by
  refine hw_op ro i m hi rfl fun op ok L w a hy=>?_
  obtain ⟨s,el,z,ho,hu,hsz,hz,hroom⟩:=build_inv ok.op
  obtain ⟨ti,hti,htn,hn0⟩:=size_inv hsz
  obtain ⟨i',zv,hi',hzv,hzr⟩:=zero_rel (P:=g.P) (L:=L) (tips:=H.tips) (w:=w) hz
  rw [hti] at hi';cases hi'
  have vx:=hy.val hx
  have vc:=vx.cells
  have hvl:(a.eval (.tmp x)).cells.size = sz:=by have:=vc.length;rw [hul] at this;simpa using this.symm
  have hd:op.dst = some d:=ok.dst.symm
  have hdN:d < g.N:=ok.lt d hd
  have hrun:=run_buildSlice (P:=g.P) (w:=w) (len:=1) (n:=sz) hu hti htn hzv (by omega) #[(0,a.eval (.tmp x))] (a.eval (.tmp x)).cells (fun zero=>by
    have hCs:((Array.range (1 * sz)).map (zero[· % zero.size]!)).size = 1 * sz:=by simp
    have hfill:=fill_row (sz:=sz) [a.eval (.tmp x)] 0 ((Array.range (1 * sz)).map (zero[· % zero.size]!)) (by simpa using hvl) (by rw [hCs];simp)
    have e1:(List.range' 0 [a.eval (.tmp x)].length).zip [a.eval (.tmp x)] = [(0,a.eval (.tmp x))]:=rfl
    rw [e1] at hfill
    rw [show (#[(0,a.eval (.tmp x))]:Array (Nat × Value)).toList = [(0,a.eval (.tmp x))] from rfl,hfill]
    congr 1
    rw [List.drop_eq_nil_of_le (by simp)]
    simp)
  have nb:=NewBlock.alloc w (.cells (a.eval (.tmp x)).cells el)
  obtain ⟨L',hy2⟩:=hy.newRow (sz:=sz) hdN nb _ (vc.move (hy.S.staysNew nb H.tips)) rfl (Nat.le_refl 1)
  refine upon_of (v:=Value.slice (some ⟨w.heap.size,0,none⟩) 1 1) (w':=w.alloc (.cells (a.eval (.tmp x)).cells el)) (r:=.value (Value.slice (some ⟨w.heap.size,0,none⟩) 1 1)) (by simp [execOp,ho,hrun]) (.inl rfl) ?_
  rw [hd]
  exact h w.heap.size L' _ _ hy2
theorem dcells_flat (cs:List D):(dcells cs).any HV.loose1 = false:=by
  rw [List.any_eq_false]
  intro v hv
  obtain ⟨x,_,rfl⟩:=List.mem_map.1 hv
  simp [HV.loose1]
theorem hw_append {ops:Array Oper} {hops:List HOper} (ro:RegionOk g.P g.gt g.N ops hops) (i m:Nat) {d x y o b n cap sz:Nat} {c:List HV} {ds:List D} {uy:HV} {ys:List (List D)} (hi:hops[i]? = some ⟨some d,.append sz (.slot x) (.slot y),none,[]⟩)
    (hV:(x,Value.slice (some ⟨b,0,none⟩) n cap) ∈ t) (hq:(o,b) ∈ q) (hc:H.objs[o]? = some (.cells c)) (hcl:c.length = cap * sz) (hn:n ≤ cap) (hds:c.take (n * sz) = dcells ds)
    (hys:e.get y = some uy) (hyr:H.rows uy sz = some ys) (hroomN:n + ys.length ≤ 1073741824)
    (hroom:n + ys.length ≤ cap→HW g ops Q (i + 1) m [(d,Value.slice (some ⟨b,0,none⟩) (n + ys.length) cap)] [(o,b)] (e.put (some d) (.row o 0 (n + ys.length) sz)) (H.setObj o (.cells (splice c (n * sz) (dcells ys.flatten)))))
    (hgrow:cap < n + ys.length→∀ b' cap' c',n + ys.length ≤ cap'→c'.length = cap' * sz→c'.take ((n + ys.length) * sz) = dcells (ds ++ ys.flatten) →
      HW g ops Q (i + 1) m [(d,Value.slice (some ⟨b',0,none⟩) (n + ys.length) cap')] [(H.objs.length,b')] (e.put (some d) (.row H.objs.length 0 (n + ys.length) sz)) (H.alloc (.cells c'))):HW g ops Q i (m + 1) t q e H:=by
  refine hw_op ro i m hi rfl fun op ok L w a hy=>?_
  obtain ⟨cl,s,el,ti,z,ho,hcal,hargs,hty,h1,h2,hti,hz,hby,hzl⟩:=append_inv ok.op
  obtain ⟨ti',hti',htn,hn0⟩:=size_inv h2
  rw [hti] at hti';cases hti'
  obtain ⟨i',zv,hi',hzv,hzr⟩:=zero_rel (P:=g.P) (L:=L) (tips:=H.tips) (w:=w) hz
  rw [hti] at hi';cases hi'
  have hzs:zv.cells.size = sz:=by have:=hzr.length;rw [hzl] at this;simpa using this.symm
  have hd:op.dst = some d:=ok.dst.symm
  have hdN:d < g.N:=ok.lt d hd
  have vx:=hy.eval hV
  have vb:=hy.val hys
  obtain ⟨vals,src⟩:=src_of (P:=g.P) hy.S vb hyr
  have hyf:ys.flatten.length = ys.length * sz:=flatten_len src.all
  have hvl:vals.length = ys.length * sz:=by have:=src.dc.1;omega
  have hfull:vals.take (ys.length * sz) = vals:=List.take_of_length_le (by omega)
  have srcK:Src g.P ti.size s (a.eval (.tmp y)) ys.length vals w:=by
    rw [htn]
    refine ⟨.inl ⟨el,h1⟩,src.len,?_,?_,hvl,src.dc.one⟩
    · have:=src.cells ys.length w (Nat.le_refl _) (.refl w);rwa [hfull] at this
    · have:=src.cells ys.length w.drew (Nat.le_refl _) (.drew w);rwa [hfull] at this
  have hrun:∀ v w',(Builtin.append_ #[s,s] op.type #[.slice (some ⟨b,0,none⟩) n cap,a.eval (.tmp y)]).run g.P w = .ok v w'→(execOp a.eval op).run g.P w = .ok (.value v) w':=fun v w' hr=>
    run_append_eq ho hcal hargs hty (by rw [vx];exact hr)
  obtain ⟨hlo,hφ⟩:=hy.O _ hq
  simp only at hlo hφ
  have hcc:H.cells? o = some c:=by simp [St.cells?,hc]
  obtain ⟨X,elem,hh,hr⟩:=hy.S.cells hcc hφ
  have hXl:X.size = cap * sz:=by have:=hr.length;simp at this;omega
  have hle:n * sz ≤ cap * sz:=Nat.mul_le_mul_right _ hn
  rcases Nat.lt_or_ge cap (n + ys.length) with hlt | hge
  ·
    have hfit:Builtin.nextslicecap (n + ys.length) cap * ti.bytes ≤ 281474976710656:=by
      refine growslice_fits hlt ?_
      have:(n + ys.length) * ti.bytes ≤ 1073741824 * 65536:=Nat.mul_le_mul hroomN hby
      omega
    have hold:(Builtin.firstCells ti.size n (.slice (some ⟨b,0,none⟩) n cap)).run g.P w.drew = .ok (X.toList.take (n * sz)).toArray w.drew:=by
      rw [htn]
      refine run_firstCells_some w.drew sz n ⟨b,0,none⟩ _ _ (X.toList.take (n * sz)) (by simp;omega) fun j v hj=>?_
      rw [List.getElem?_take] at hj
      split at hj
      · have hcell:=hh.cell j
        rw [Addr.add_lit,Nat.zero_add,(SameMem.drew w).cell,hcell]
        simpa using hj
      · cases hj
    have hrr:=run_append_grow_src (P:=g.P) w s s op.type el ti zv h1 hti hzv (some ⟨b,0,none⟩) n cap (X.toList.take (n * sz)) hold (a.eval (.tmp y)) ys.length vals srcK hlt (by omega) hfit
    have hncap:=grownCap_ge w (n + ys.length) cap el
    generalize grownCap w (n + ys.length) cap el = ncap at hrr hncap
    have nb:=NewBlock.after (SameMem.drew w) (NewBlock.alloc w.drew (.cells ((X.toList.take (n * sz) ++ vals).toArray ++ Builtin.zeroCells zv.cells (ncap - (n + ys.length))) el))
    have st:=hy.S.staysNew nb H.tips
    have hvz:=zeros_rel (P:=g.P) hy.S hz hti hzv hzl (Nat.pos_of_ne_zero hn0) (ncap - (n + ys.length)) (Builtin.zeroCells zv.cells (ncap - (n + ys.length))).toList (by simp [Builtin.zeroCells,hzs]) (fun k hk=>by simp [Builtin.zeroCells,hzs,hk]) H.tips
      (w.drew.alloc (.cells ((X.toList.take (n * sz) ++ vals).toArray ++ Builtin.zeroCells zv.cells (ncap - (n + ys.length))) el))
    have hvo:VRels L H.tips w (dcells ds) (X.toList.take (n * sz)):=by
      rw [← hds]
      refine VRels.of (by have:=hr.length;simp at this ⊢;omega) fun k u v hu hv=>?_
      rw [List.getElem?_take] at hu hv
      split at hu
      · rename_i hk
        rw [if_pos hk] at hv
        obtain ⟨v',hv',h⟩:=hr.get k hu
        rw [hv] at hv';cases hv'
        exact h
      · cases hu
    have hvn:VRels L H.tips w (dcells ys.flatten) vals:=VRels.mk_dcells src.dc.1 src.dc.2
    have hall:=((hvo.append hvn).move st).append hvz
    obtain ⟨L',hy2⟩:=hy.newRow (sz:=sz) (n:=n + ys.length) hdN nb (dcells ds ++ dcells ys.flatten ++ (List.replicate (ncap - (n + ys.length)) z).flatten) (by simpa using hall) rfl hncap
    refine upon_of (hrun _ _ hrr) (.inl rfl) ?_
    rw [hd]
    have hdl:ds.length = n * sz:=by have:=congrArg List.length hds;simp [dcells] at this;omega
    refine hgrow hlt w.heap.size ncap _ hncap ?_ ?_ L' _ _ hy2
    · rw [List.length_append,List.length_append,flatten_len (sz:=sz) (fun r hr=>by rw [(List.mem_replicate.1 hr).2];exact hzl)]
      simp only [dcells,List.length_map,hdl,hyf,List.length_replicate]
      rw [← Nat.add_mul,← Nat.add_mul]
      congr 1
      omega
    · have hL:(dcells ds ++ dcells ys.flatten).length = (n + ys.length) * sz:=by rw [List.length_append];simp only [dcells,List.length_map,hdl,hyf,Nat.add_mul]
      rw [List.take_append_of_le_length (by rw [hL];exact Nat.le_refl _),List.take_of_length_le (by rw [hL];exact Nat.le_refl _)]
      simp [dcells]
  · by_cases hys0:ys = []
    · subst hys0
      have hv0:vals = []:=by simpa using hvl
      subst hv0
      have hrr:=run_append_nothing (P:=g.P) w s s op.type el ti h1 hti (some ⟨b,0,none⟩) n cap hn (a.eval (.tmp y)) srcK
      refine upon_of (hrun _ _ hrr) (.inl rfl) ?_
      rw [hd]
      have hsame:H.setObj o (.cells (splice c (n * sz) (dcells ([]:List (List D)).flatten))) = H:=by
        have:splice c (n * sz) (dcells ([]:List (List D)).flatten) = c:=by simp [splice,dcells]
        rw [this]
        unfold St.setObj
        have:H.objs.set o (.cells c) = H.objs:=by
          apply List.ext_getElem?
          intro k
          rw [List.getElem?_set]
          split
          · rename_i hk;subst hk;simp [hc]
          · rfl
        rw [this]
      have:=hroom hge
      rw [hsame] at this
      exact this L w _ (hy.put (.refl _ _ _ _) hy.S (.row _ _ _ _ _ _ hφ hge) (.refl _) (fun x hx=>by cases hx;exact hdN) (fun p hp=>by
        simp only [List.mem_singleton] at hp
        subst hp
        exact put_eq (Nat.lt_of_lt_of_le hdN hy.N)) fun p hp=>by
        simp only [List.mem_singleton] at hp
        subst hp
        exact ⟨hlo,hφ⟩)
    · have hfits:n * sz + vals.length ≤ X.size:=by
        rw [hXl,hvl,← Nat.add_mul]
        exact Nat.mul_le_mul_right _ hge
      have hrr:=run_append_room_src (P:=g.P) w s s op.type el ti h1 hti b 0 n cap (a.eval (.tmp y)) ys.length vals srcK hge (fun j hj=>by
        rw [htn,hh.cell,Array.getElem?_eq_getElem (by omega)];rfl) (fun j hj=>hh.frozen _ (by rw [htn];omega))
      rw [htn,Nat.zero_add] at hrr
      have hw:H.write (.ref o (n * sz)) (dcells ys.flatten) = some (H.setObj o (.cells (splice c (n * sz) (dcells ys.flatten)))):=by
        simp only [St.write,hcc]
        rw [if_pos (by simp only [dcells,List.length_map,hyf,hcl];rw [← Nat.add_mul];exact Nat.mul_le_mul_right _ hge),dcells_flat]
        rfl
      obtain ⟨b2,off2,w2,hp2,hst,e1,S1⟩:=write_sound (P:=g.P) (a:=.ref o (n * sz)) (p:=.pointer (some ⟨b,n * sz,none⟩)) hy.S (.ref _ _ _ hφ) (VRels.mk_dcells src.dc.1 src.dc.2) src.dc.one hw
      cases hp2
      have hst2:=run_storeCells_cells (P:=g.P) b (n * sz) vals 0 w (fun j hj=>by
        rw [hh.cell,Array.getElem?_eq_getElem (by omega)];rfl) (fun j hj=>hh.frozen _ (by omega)) src.dc.one
      rw [hst] at hst2
      simp only [Nat.add_zero,Result.ok.injEq,true_and] at hst2
      subst hst2
      refine upon_of (hrun _ _ hrr) (.inl rfl) ?_
      rw [hd]
      rw [hy.S.nobj] at e1
      have hφ2:=e1.φ o hlo
      rw [hφ] at hφ2
      refine hroom hge L _ _ (hy.put e1 S1 (.row _ _ _ _ _ _ hφ hge) (.write hw) (fun x hx=>by cases hx;exact hdN) (fun p hp=>?_) fun p hp=>?_)
      · simp only [List.mem_singleton] at hp
        subst hp
        exact put_eq (Nat.lt_of_lt_of_le hdN hy.N)
      · simp only [List.mem_singleton] at hp
        subst hp
        exact ⟨by simpa [St.setObj] using hlo,hφ⟩
end
end Am
