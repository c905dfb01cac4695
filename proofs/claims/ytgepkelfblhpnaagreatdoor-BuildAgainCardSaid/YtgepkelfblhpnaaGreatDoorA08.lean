/- A part of the proof of BuildAgain: no condition of its own. Whence: AmOps8. -/
import Derived.Test.YtgepkelfblhpnaaGreatDoorA07
import Derived.Laws.MakeOwn
import Derived.Laws.IdiomStrings
import Derived.Deep.Upon
set_option linter.all false
namespace Am
open Go
section
variable {P:Program} {gt:Nat→Option (List D)} {L L':Lay} {H H':St} {w w':World} {η:Operand→Value} {ρ:HO→Option HV} {o:Oper} {u:HV} {hop:HOp} {call:CallT} {tips:List Nat}
def St.setTip (H:St) (k m:Nat):St:={ H with tips:=H.tips.set k m }
theorem Sim.retip (S:Sim gt H L w) {k n m b' sz cap:Nat} (hk:H.tips[k]? = some n) (hφ:L'.φ = L.φ) (hτ:L'.τ = L.τ.set k (some (b',sz,cap)))
    (e:Ext L.φ.length L H.tips w L' (H.setTip k m).tips w')
    (hobj:∀ o b:Nat,L.φ[o]? = some (some b)→w'.heap[b]? = w.heap[b]? ∧ L'.I b = 0 ∧ b < w'.heap.size ∧ b ≠ b')
    (htip:∀ t b s c:Nat,t ≠ k→L.τ[t]? = some (some (b,s,c))→w'.heap[b]? = w.heap[b]? ∧ L'.I b = L.I b ∧ b ≠ b')
    (hnew:L'.I b' = m * sz ∧ m ≤ cap ∧ ∃ cs elem,RowAt w' b' cs elem ∧ cs.size = cap * sz)
    (hfresh:∀ b,w'.heap.size ≤ b→L'.I b = 0) (hyoung:L.base ≤ b'):Sim gt (H.setTip k m) L' w':=by
  have st:=e.stays
  have hkl:k < H.tips.length:=lt_of_getElem? hk
  have hkt:k < L.τ.length:=by rw [S.ntip];exact hkl
  have hat:∀ (t:Nat) (x:Option (Nat × Nat × Nat)),L'.τ[t]? = some x→(t = k ∧ x = some (b',sz,cap)) ∨ (t ≠ k ∧ L.τ[t]? = some x):=by
    intro t x h
    rw [hτ,List.getElem?_set] at h
    split at h
    · rename_i h1
      exact .inl ⟨h1.symm,by simpa using h.symm⟩
    · rename_i h1
      exact .inr ⟨fun e=>h1 e.symm,h⟩
  have htat:∀ (t x:Nat),(H.setTip k m).tips[t]? = some x→(t = k ∧ x = m) ∨ (t ≠ k ∧ H.tips[t]? = some x):=by
    intro t x h
    simp only [St.setTip,List.getElem?_set] at h
    split at h
    · rename_i h1
      exact .inl ⟨h1.symm,by simpa using h.symm⟩
    · rename_i h1
      exact .inr ⟨fun e=>h1 e.symm,h⟩
  exact {
    glob:=fun g cs h=>(S.glob g cs h).grow e.grow
    nobj:=by rw [hφ];exact S.nobj
    ntip:=by rw [hτ];simp [St.setTip,S.ntip]
    obj:=fun o b x h1 h2=>by
      rw [hφ] at h2
      exact (S.obj o b x h1 h2).move st (hobj o b h2).1
    pend:=fun o h2=>by
      rw [hφ] at h2
      rw [e.pc o (lt_of_getElem? h2)]
      exact S.pend o h2
    tip:=fun t x b s c h1 h2=>by
      rcases hat t _ h2 with ⟨rfl,h3⟩ | ⟨h3,h4⟩
      · simp only [Option.some.injEq,Prod.mk.injEq] at h3
        obtain ⟨rfl,rfl,rfl⟩:=h3
        rcases htat _ _ h1 with ⟨_,rfl⟩ | ⟨h5,_⟩
        · exact hnew
        · exact absurd rfl h5
      · rcases htat _ _ h1 with ⟨h5,_⟩ | ⟨_,h5⟩
        · exact absurd h5 h3
        · obtain ⟨h6,h7,_⟩:=htip t b s c h3 h4
          exact tip_move (S.tip t x b s c h5 h4) h7 h6
    tip0:=fun t x h1 h2=>by
      rcases hat t _ h2 with ⟨_,h3⟩ | ⟨h3,h4⟩
      · cases h3
      · rcases htat _ _ h1 with ⟨h5,_⟩ | ⟨_,h5⟩
        · exact absurd h5 h3
        · exact S.tip0 t x h5 h4
    inj:=by rw [hφ];exact S.inj
    tinj:=fun i j b s c s' c' h1 h2=>by
      rcases hat i _ h1 with ⟨rfl,h3⟩ | ⟨h3,h4⟩ <;> rcases hat j _ h2 with ⟨rfl,h5⟩ | ⟨h5,h6⟩
      · rfl
      · simp only [Option.some.injEq,Prod.mk.injEq] at h3
        exact absurd h3.1 (htip j b _ _ h5 h6).2.2
      · simp only [Option.some.injEq,Prod.mk.injEq] at h5
        exact absurd h5.1 (htip i b _ _ h3 h4).2.2
      · exact S.tinj i j b s c s' c' h4 h6
    disj:=fun i j b s c h1 h2=>by
      rw [hφ] at h1
      rcases hat j _ h2 with ⟨rfl,h5⟩ | ⟨h5,h6⟩
      · simp only [Option.some.injEq,Prod.mk.injEq] at h5
        exact (hobj i b h1).2.2.2 h5.1
      · exact S.disj i j b s c h1 h6
    objI:=fun o b h=>by
      rw [hφ] at h
      exact ⟨(hobj o b h).2.1,(hobj o b h).2.2.1⟩
    fresh:=hfresh
    young:=fun c hc=>by
      rw [e.base]
      rcases hc with ⟨o,h⟩ | ⟨t,s,c',h⟩
      · rw [hφ] at h;exact S.young c (.inl ⟨o,h⟩)
      · rcases hat t _ h with ⟨_,h3⟩ | ⟨_,h3⟩
        · simp only [Option.some.injEq,Prod.mk.injEq] at h3;rw [h3.1];exact hyoung
        · exact S.young c (.inr ⟨t,s,c',h3⟩)
    baseLe:=by rw [e.base];exact Nat.le_trans S.baseLe e.size }
theorem tips_set {L':Lay} {n m k:Nat} (hk:tips[k]? = some n) (hn:n < m) (hτ:∀ t:Nat,t ≠ k→L'.τ[t]? = L.τ[t]?) (t x:Nat) (h:tips[t]? = some x) :
    ∃ x',(tips.set k m)[t]? = some x' ∧ x ≤ x' ∧ (x' = x→L'.τ[t]? = L.τ[t]?):=by
  rw [List.getElem?_set]
  split
  · rename_i h1
    subst h1
    rw [hk] at h
    cases h
    exact ⟨m,by rw [if_pos (lt_of_getElem? hk)],by omega,fun e=>absurd e (by omega)⟩
  · rename_i h1
    exact ⟨x,h,Nat.le_refl _,fun _=>hτ t (fun e=>h1 e.symm)⟩
theorem Sim.tipMove (S:Sim gt H L w) {k n m sz cap:Nat} {cs:Array Value} {elem:TypeId} (hk:H.tips[k]? = some n) (hn:n < m) (nb:NewBlock w w' (.cells cs elem)) (hcap:m ≤ cap) (hsz:cs.size = cap * sz) :
    ∃ L',Ext L.φ.length L H.tips w L' (H.setTip k m).tips w' ∧ Sim gt (H.setTip k m) L' w' ∧ L'.τ[k]? = some (some (w.heap.size,sz,cap)) ∧ L'.I w.heap.size = m * sz:=by
  have e1:=S.extAlloc (tips:=H.tips) nb (m * sz) L.φ.length
  have hkt:k < L.τ.length:=by rw [S.ntip];exact lt_of_getElem? hk
  have hI:∀ b,b < w.heap.size→(L.withI w.heap.size (m * sz)).I b = L.I b:=fun b hb=>by simp only [Lay.withI];rw [if_neg (by omega)]
  have hI0:(L.withI w.heap.size (m * sz)).I w.heap.size = m * sz:=by simp [Lay.withI]
  have he:Ext L.φ.length L H.tips w { L.withI w.heap.size (m * sz) with τ:=L.τ.set k (some (w.heap.size,sz,cap)) } (H.setTip k m).tips w':=by
    exact {
      grow:=e1.grow
      φ:=fun _ _=>rfl
      tips:=tips_set hk hn fun t ht=>by simp only [List.getElem?_set];rw [if_neg (fun e=>ht e.symm)]
      size:=e1.size
      tape:=nb.tape
      os:=nb.os
      output:=nb.output
      drawn:=nb.drawn
      old:=fun c hc=>nb.old c (Nat.lt_of_lt_of_le hc S.baseLe)
      base:=rfl
      pc:=fun _ _=>rfl }
  refine ⟨_,he,?_,by simp [hkt],hI0⟩
  refine S.retip (L':={ L.withI w.heap.size (m * sz) with τ:=L.τ.set k (some (w.heap.size,sz,cap)) }) hk rfl rfl he (fun o b h=>?_) (fun t b s c ht h=>?_) ⟨hI0,hcap,cs,elem,.of nb.new,hsz⟩ (fun b hb=>?_) ?_
  · obtain ⟨h1,h2⟩:=S.objI o b h
    exact ⟨nb.old b h2,by rw [← h1];exact hI b h2,by rw [nb.size];omega,by omega⟩
  · have hlt:=S.ownedLt (.inr ⟨t,s,c,h⟩)
    exact ⟨nb.old b hlt,hI b hlt,by omega⟩
  · rw [nb.size] at hb
    simp only [Lay.withI]
    rw [if_neg (by omega)]
    exact S.fresh b (by omega)
  · exact S.baseLe
theorem Sim.tipRoom (S:Sim gt H L w) {k n m b sz cap:Nat} {cs cs':Array Value} {elem:TypeId} (hk:H.tips[k]? = some n) (hn:n < m) (hb:L.τ[k]? = some (some (b,sz,cap))) (q:OneBlock w w' b)
    (hc:RowAt w b cs elem) (hc':RowAt w' b cs' elem) (hsz:cs'.size = cs.size) (hsame:∀ j,j < n * sz→cs'[j]? = cs[j]?) (hcap:m ≤ cap) :
    ∃ L',Ext L.φ.length L H.tips w L' (H.setTip k m).tips w' ∧ Sim gt (H.setTip k m) L' w' ∧ L'.τ[k]? = some (some (b,sz,cap)) ∧ L'.I b = m * sz:=by
  obtain ⟨hIb,hncap,cs0,elem0,hcc,hcs⟩:=S.tip k n b sz cap hk hb
  have hcc':cs0 = cs:=by
    obtain ⟨_,h1,_⟩:=hc
    obtain ⟨_,h2,_⟩:=hcc
    rw [h1] at h2
    cases h2
    rfl
  subst hcc'
  have hkt:k < L.τ.length:=by rw [S.ntip];exact lt_of_getElem? hk
  have hblt:b < w.heap.size:=S.ownedLt (.inr ⟨k,sz,cap,hb⟩)
  have hset:L.τ.set k (some (b,sz,cap)) = L.τ:=by
    apply List.ext_getElem?
    intro j
    rw [List.getElem?_set]
    split
    · rename_i h1;subst h1;rw [hb]
    · rfl
  have hI:∀ c,c ≠ b→(L.withI b (m * sz)).I c = L.I c:=fun c h=>by simp only [Lay.withI];rw [if_neg h]
  have hI0:(L.withI b (m * sz)).I b = m * sz:=by simp [Lay.withI]
  have he:Ext L.φ.length L H.tips w (L.withI b (m * sz)) (H.setTip k m).tips w':=by
    exact {
      grow:=by
        refine ⟨fun c=>?_,fun c off ho=>?_⟩
        · by_cases h:c = b
          · subst h;rw [hI0,hIb];exact Nat.mul_le_mul_right _ (by omega)
          · rw [hI c h];exact Nat.le_refl _
        · by_cases h:c = b
          · subst h
            rw [hIb] at ho
            rw [hc.cell,hc'.cell]
            exact hsame off ho
          · exact cell_heap (q.old c h) off
      φ:=fun _ _=>rfl
      tips:=tips_set hk hn fun t ht=>rfl
      size:=Nat.le_of_eq q.size.symm
      tape:=q.tape
      os:=q.os
      output:=q.output
      drawn:=q.drawn
      old:=fun c hc=>q.old c (fun e=>by have:=S.young b (.inr ⟨k,sz,cap,hb⟩);omega)
      base:=rfl
      pc:=fun _ _=>rfl }
  refine ⟨_,he,?_,hb,hI0⟩
  refine S.retip (L':=L.withI b (m * sz)) hk rfl hset.symm he (fun o c h=>?_) (fun t c s c' ht h=>?_) ⟨hI0,hcap,cs',elem,hc',by rw [hsz];exact hcs⟩ (fun c hc0=>?_) ?_
  · have hne:c ≠ b:=fun e=>S.disj o k c sz cap h (e ▸ hb)
    obtain ⟨h1,h2⟩:=S.objI o c h
    exact ⟨q.old c hne,by rw [hI c hne];exact h1,by rw [q.size];exact h2,hne⟩
  · have hne:c ≠ b:=fun e=>ht (S.tinj t k c s c' sz cap h (e ▸ hb))
    exact ⟨q.old c hne,hI c hne,hne⟩
  · rw [q.size] at hc0
    rw [hI c (by omega)]
    exact S.fresh c hc0
  · exact S.young b (.inr ⟨k,sz,cap,hb⟩)
theorem drel_rows {I:Nat→Nat} {w:World} {b cap sz:Nat} {rows:List (List D)} {X:List Value} {cs:Array Value} {elem:TypeId} {fz:Nat × Nat} (hall:∀ r ∈ rows,r.length = sz) (hcap:rows.length ≤ cap)
    (hd:DCells I w rows.flatten X) (hh:w.heap[b]? = some (.cells cs elem fz)) (hx:∀ j,j < X.length→cs[j]? = X[j]?) (hI:rows.length * sz ≤ I b):DRel I w (.sl rows) (.slice (some ⟨b,0,none⟩) rows.length cap):=by
  refine drel_sl.2 (.inr ⟨b,0,cap,sz,rfl,hcap,hall,by rw [flatten_len hall];omega,fun k x hk=>?_⟩)
  have hlt:k < X.length:=by rw [← hd.1];exact lt_of_getElem? hk
  refine ⟨X[k],?_,hd.2 k x _ hk (List.getElem?_eq_getElem hlt)⟩
  rw [Nat.zero_add,cell_of_row w b k cs elem fz hh,hx k hlt,List.getElem?_eq_getElem hlt]
theorem DCells.grow {I I':Nat→Nat} (g:Grows I w I' w') {as:List D} {X:List Value} (h:DCells I w as X):DCells I' w' as X:=
  ⟨h.1,fun k x v hx hv=>(h.2 k x v hx hv).grow g⟩
theorem own_rel {rows:List (List D)} {b cap sz k:Nat} {X:List Value} {cs:Array Value} {elem:TypeId} {fz:Nat × Nat} (hall:∀ r ∈ rows,r.length = sz) (hcap:rows.length ≤ cap)
    (hd:DCells L.I w rows.flatten X) (hh:w.heap[b]? = some (.cells cs elem fz)) (hx:∀ j,j < X.length→cs[j]? = X[j]?) (hI:L.I b = rows.length * sz)
    (ht:tips[k]? = some rows.length) (hτ:L.τ[k]? = some (some (b,sz,cap))) (hsz:sz ≠ 0):VRel L tips w (.own rows (.tok k sz)) (.slice (some ⟨b,0,none⟩) rows.length cap):=
  .own _ _ _ (drel_rows hall hcap hd hh hx (Nat.le_of_eq hI.symm)) ⟨_,ht,Nat.le_refl _,fun _=>⟨_,hτ,rfl,hsz,rfl⟩⟩
theorem flat_rep {α:Type} {l:List α} {sz:Nat} (hl:l.length = sz):∀ (n k:Nat),k < n * sz→((List.replicate n l).flatten)[k]? = l[k % sz]?
  | 0,k,h=>by simp at h
  | n + 1,k,h=>by
    rw [Nat.succ_mul] at h
    rw [List.replicate_succ,List.flatten_cons]
    rcases Nat.lt_or_ge k sz with hk | hk
    · rw [List.getElem?_append_left (by omega),Nat.mod_eq_of_lt hk]
    · rw [List.getElem?_append_right (by omega),hl,flat_rep hl n (k - sz) (by omega),Nat.mod_eq_sub_mod hk]
section
variable (S:Sim gt H L w) (R:Opnds gt L H.tips w η ρ) (h:stepOp call ρ H hop = some (u,H'))
include S R h
theorem g_makeSlice {t:TypeId} {l c:Operand} (ho:o.op = .makeSlice t l c) (hc:cOp P gt (.makeSlice t l c) = some hop):Good P gt η o H L w u H':=by
  simp only [cOp] at hc
  split at hc
  · rename_i e l' c' h1 h2 h3
    split at hc
    · rename_i n z i hn hz hi
      split at hc
      · rename_i hb
        simp only [Option.some.injEq] at hc
        subst hc
        obtain ⟨i',hi',hin,hn0⟩:=size_inv hn
        rw [hi] at hi';cases hi'
        obtain ⟨i',zv,hi',hzv,hzr⟩:=zero_rel (P:=P) (L:=L) (tips:=H.tips) (w:=w) hz
        rw [hi] at hi';cases hi'
        simp only [stepOp] at h
        split at h
        · rename_i kl nl kc nc hl hcc
          have vl:=(R l l' _ h2 hl).int_inv
          have vc:=(R c c' _ h3 hcc).int_inv
          split at h
          · rename_i hcond
            obtain ⟨hz1,h0,hlc,hroom⟩:=hcond
            have hzs:zv.cells.size = n:=by have:=hzr.length;rw [hz1] at this;simpa using this.symm
            have hroom':nc ≤ 1073741824:=by simpa [roomN] using hroom
            have hrun:=run_make (P:=P) w t e i zv h1 hi hzv kl kc nl nc h0 hlc (by
              have h1:(i.bytes:Int) ≤ 65536:=by omega
              have h2:(i.bytes:Int) * nc ≤ 65536 * nc:=Int.mul_le_mul_of_nonneg_right h1 (by omega)
              omega) (by omega)
            rw [hin] at hrun
            have hms:=size_madeCells zv.cells (nc.toNat * n)
            split at h
            · rename_i hn00
              subst hn00
              simp only [Option.some.injEq,Prod.mk.injEq] at h
              obtain ⟨rfl,rfl⟩:=h
              obtain ⟨L',e1,e2,e3,_,_⟩:=S.newTip (NewBlock.alloc w (.cells (madeCells zv.cells (nc.toNat * n)) e)) 0 n nc.toNat L.φ.length (Nat.zero_le _) hms
              refine ⟨.value (.slice (some ⟨w.heap.size,0,none⟩) (0:Int).toNat nc.toNat),_,_,L',?_,.inl rfl,e1,e2,?_⟩
              · simp [execOp,ho,vl,vc,hrun]
              · exact .own _ _ _ (.sl0 _ _) ⟨0,by simp,Nat.le_refl _,fun _=>⟨_,e3,rfl,hn0,rfl⟩⟩
            · split at h
              · rename_i hnc
                subst hnc
                simp only [Option.some.injEq,Prod.mk.injEq] at h
                obtain ⟨rfl,rfl⟩:=h
                refine good_newObj S (.cells (madeCells zv.cells (nl.toNat * n)) e) _ ⟨madeCells zv.cells (nl.toNat * n),e,.of (heap_alloc_new w _),?_⟩ (v:=.slice (some ⟨w.heap.size,0,none⟩) nl.toNat nl.toNat) ?_ fun L' hL=>.row _ _ _ _ _ _ hL (Nat.le_refl _)
                · have hzr':=hzr.move (S.staysAlloc (.cells (madeCells zv.cells (nl.toNat * n)) e) H.tips)
                  refine VRels.of ?_ fun k a b ha hbb=>?_
                  · rw [flatten_len (sz:=n) (fun r hr=>by rw [(List.mem_replicate.1 hr).2];exact hz1)]
                    simp [madeCells]
                  · have hlt:k < nl.toNat * n:=by
                      have:=lt_of_getElem? hbb
                      simpa [madeCells] using this
                    rw [flat_rep hz1 _ _ hlt] at ha
                    obtain ⟨b',hb',hr⟩:=hzr'.get _ ha
                    have:b = b':=by
                      have hlt':k % n < zv.cells.size:=by rw [hzs];exact Nat.mod_lt _ (by omega)
                      simp [madeCells,hlt,hzs] at hbb
                      rw [← hbb,getElem!_pos zv.cells (k % n) hlt']
                      simp [hlt'] at hb'
                      exact hb'
                    rw [this]
                    exact hr
                · simp [execOp,ho,vl,vc,hrun]
              · cases h
          · cases h
        · cases h
      · cases hc
    · cases hc
  · cases hc
theorem g_convSB {s t e:TypeId} {x:Operand} {y:HO} (ho:o.op = .convert s t x) (hx:cO gt x = some y) (hh:hop = .convSB y)
    (h1:P.underlying s = some .string) (h2:P.underlying t = some (.slice e)) (h3:P.underlying e = some (.int .u8)):Good P gt η o H L w u H':=by
  subst hh
  simp only [stepOp] at h
  split at h
  · rename_i q hq
    simp only [Option.some.injEq,Prod.mk.injEq] at h
    obtain ⟨rfl,rfl⟩:=h
    have vx:=(R x y _ hx hq).str_inv
    have hrun:=run_bytes_of_string (P:=P) w s t e ⟨q.toArray⟩ h1 h2 h3
    have hcap:=grownCap_ge w (ByteArray.mk q.toArray).size 0 e
    generalize grownCap w (ByteArray.mk q.toArray).size 0 e = cap at hrun hcap
    generalize hrow:bytesRow ⟨q.toArray⟩ cap = row at hrun
    have nb:=NewBlock.after (SameMem.drew w) (NewBlock.alloc w.drew (.cells row e (row.size,row.size + 1)))
    have hsz:(⟨q.toArray⟩:ByteArray).size = q.length:=size_mk q
    rw [hsz] at hcap hrun
    refine ⟨.value (.slice (some ⟨w.heap.size,0,none⟩) q.length cap),_,_,L.withI w.heap.size q.length,?_,.inl rfl,S.extAlloc nb _ _,S.alloc nb _,?_⟩
    · simp [execOp,ho,vx,hrun]
    · have hfl:(q.map fun b=>[D.int .u8 (b.toNat:Int)]).flatten = q.map fun b=>D.int .u8 b.toNat:=by
        clear hrow hrun hcap hsz vx hq
        induction q with
        | nil=>rfl
        | cons b s ih=>simp only [List.map_cons,List.flatten_cons,ih];rfl
      have:=drel_rows (I:=(L.withI w.heap.size q.length).I) (w:=w.drew.alloc (.cells row e (row.size,row.size + 1))) (b:=w.heap.size) (cap:=cap) (sz:=1) (rows:=q.map fun b=>[D.int .u8 (b.toNat:Int)])
        (X:=q.map fun b=>.int .u8 b.toNat) (cs:=row) (elem:=e) (fz:=(row.size,row.size + 1)) (by
          intro r hr
          obtain ⟨b,_,rfl⟩:=List.mem_map.1 hr
          rfl) (by simpa using hcap) (by
          rw [hfl]
          refine ⟨by simp,fun k x v hx hv=>?_⟩
          rw [List.getElem?_map] at hx hv
          cases hk:q[k]? with
          | none=>rw [hk] at hx;cases hx
          | some b=>rw [hk] at hx hv;cases hx;cases hv;exact .int _ _) nb.new (by
          intro j hj
          simp only [List.length_map] at hj
          rw [← hrow]
          simp [bytesRow,Array.getElem?_append,hj]) (by simp [Lay.withI])
      simp only [List.length_map] at this
      exact .d _ _ this
  · cases h
omit S R h in
theorem run_append_eq {c:Call} {s:TypeId} {x y:Operand} (ho:o.op = .call c) (hcal:c.callee = .builtin .append) (hargs:c.args = #[x,y]) (hty:c.argTypes = #[s,s]) {v:Value} {w':World}
    (hr:(Builtin.append_ #[s,s] o.type #[η x,η y]).run P w = .ok v w'):(execOp η o).run P w = .ok (.value v) w':=by
  simp [execOp,ho,resolve,hcal,hargs,invoke,builtin,hty,hr]
omit S R h in
theorem setCells_block {b off:Nat} {vs:List Value} {cs:Array Value} {elem:TypeId} (hh:RowAt w b cs elem) (hle:off + vs.length ≤ cs.size) (h1:∀ v ∈ vs,v.oneCell' = true) :
    w.setCells b off vs = w.setRow b (cs.toList.take off ++ vs ++ cs.toList.drop (off + vs.length)).toArray:=by
  have r1:=run_storeCells_row (P:=default) hh hle h1
  have r2:=run_storeCells_cells (P:=default) b off vs 0 w (fun j hj=>by
    rw [hh.cell,Array.getElem?_eq_getElem (by omega)];rfl) (fun j hj=>hh.frozen _ (by omega)) h1
  rw [r1] at r2
  simp only [Nat.add_zero,Result.ok.injEq,true_and] at r2
  exact r2.symm
theorem g_append {c:Call} {s e:TypeId} {sz:Nat} {x y:Operand} {x' y':HO} {i:TypeInfo} {z:List HV} (ho:o.op = .call c) (hcal:c.callee = .builtin .append) (hargs:c.args = #[x,y]) (hty:c.argTypes = #[s,s])
    (h1:P.underlying s = some (.slice e)) (h2:tSize P e = some sz) (hi:P.info? e = some i) (hz:tZero P e = some z) (hby:i.bytes ≤ 65536) (hzl:z.length = sz)
    (hx:cO gt x = some x') (hy:cO gt y = some y') (hh:hop = .append sz x' y'):Good P gt η o H L w u H':=by
  have hrun:∀ v w',(Builtin.append_ #[s,s] o.type #[η x,η y]).run P w = .ok v w'→(execOp η o).run P w = .ok (.value v) w':=fun v w' hr=>run_append_eq ho hcal hargs hty hr
  obtain ⟨i',hi',hin,hn0⟩:=size_inv h2
  rw [hi] at hi';cases hi'
  obtain ⟨i',zv,hi',hzv,hzr⟩:=zero_rel (P:=P) (L:=L) (tips:=H.tips) (w:=w) hz
  rw [hi] at hi';cases hi'
  have hzs:zv.cells.size = sz:=by have:=hzr.length;rw [hzl] at this;simpa using this.symm
  subst hh
  simp only [stepOp] at h
  split at h
  · rename_i a b ha hb
    have va:=R x x' _ hx ha
    have vb:=R y y' _ hy hb
    split at h
    · rename_i ys hys
      obtain ⟨vals,src⟩:=src_of (P:=P) S vb hys
      have hvl:vals.length = ys.length * sz:=by have:=src.dc.1;rw [flatten_len src.all] at this;exact this.symm
      have hfull:vals.take (ys.length * sz) = vals:=List.take_of_length_le (by omega)
      have srcK:Src P i.size s (η y) ys.length vals w:=by
        rw [hin]
        refine ⟨.inl ⟨e,h1⟩,src.len,?_,?_,hvl,src.dc.one⟩
        · have:=src.cells ys.length w (Nat.le_refl _) (.refl w);rwa [hfull] at this
        · have:=src.cells ys.length w.drew (Nat.le_refl _) (.drew w);rwa [hfull] at this
      have nothing:∀ (base:Option Addr) (n cap:Nat),ys = []→η x = .slice base n cap→n ≤ cap→(execOp η o).run P w = .ok (.value (η x)) w:=by
        rintro base n cap rfl hv hle
        have hv0:vals = []:=by simpa using hvl
        subst hv0
        rw [hv]
        refine hrun _ _ ?_
        rw [hv]
        exact run_append_nothing w s s o.type e i h1 hi base n cap hle (η y) srcK
      split at h
      · rename_i rows t
        split at h
        · rename_i hys0
          simp only [Option.some.injEq,Prod.mk.injEq] at h
          obtain ⟨rfl,rfl⟩:=h
          refine .same S ?_ va
          cases va with
          | own _ _ _ hd hok=>
            rcases drel_sl.1 hd with ⟨rfl,a,cap,hv⟩ | ⟨b,off,cap,_,hv,hcap,_⟩
            · exact nothing _ _ _ hys0 hv (Nat.zero_le _)
            · exact nothing _ _ _ hys0 hv hcap
        · rename_i hys0
          have hyl:0 < ys.length:=List.length_pos_iff.2 hys0
          split at h
          · rename_i hcond
            simp only [Bool.and_eq_true,List.all_eq_true,beq_iff_eq,decide_eq_true_eq] at hcond
            obtain ⟨hall,hroomN⟩:=hcond
            have hroomN':rows.length + ys.length ≤ 1073741824:=by simpa [roomN] using hroomN
            have hsum:(rows ++ ys).length = rows.length + ys.length:=List.length_append
            have hallxy:∀ r ∈ rows ++ ys,r.length = sz:=fun r hr=>(List.mem_append.1 hr).elim (hall r) (src.all r)
            have vd:VRel L H.tips w (.d (.sl rows)) (η x):=by cases va with | own _ _ _ hd _=>exact .d _ _ hd
            have hroS:H.rows (.d (.sl rows)) sz = some rows:=by simp only [St.rows];rw [if_pos (by simpa using hall)]
            obtain ⟨olds,old⟩:=src_of (P:=P) S vd hroS
            have hol:olds.length = rows.length * sz:=by have:=old.dc.1;rw [flatten_len old.all] at this;exact this.symm
            have hofull:olds.take (rows.length * sz) = olds:=List.take_of_length_le (by omega)
            have hold:(Builtin.firstCells i.size rows.length (η x)).run P w.drew = .ok olds.toArray w.drew:=by
              rw [hin]
              have:=old.cells rows.length w.drew (Nat.le_refl _) (.drew w);rwa [hofull] at this
            have hfit:∀ cap,cap < rows.length + ys.length→Builtin.nextslicecap (rows.length + ys.length) cap * i.bytes ≤ 281474976710656:=fun cap hcap=>by
              refine growslice_fits hcap ?_
              have:(rows.length + ys.length) * i.bytes ≤ 1073741824 * 65536:=Nat.mul_le_mul hroomN' hby
              omega
            have grow:∀ (base:Option Addr) (cap:Nat),η x = .slice base rows.length cap→cap < rows.length + ys.length →
                ∃ (ncap:Nat) (cs:Array Value) (w':World),(execOp η o).run P w = .ok (.value (.slice (some ⟨w.heap.size,0,none⟩) (rows.length + ys.length) ncap)) w' ∧ NewBlock w w' (.cells cs e) ∧ cs.size = ncap * sz ∧
                  rows.length + ys.length ≤ ncap ∧ ∀ j,j < (olds ++ vals).length→cs[j]? = (olds ++ vals)[j]?:=by
              intro base cap hv hcap
              have hr:=run_append_grow_src (P:=P) w s s o.type e i zv h1 hi hzv base rows.length cap olds (by rw [← hv];exact hold) (η y) ys.length vals srcK hcap (by omega) (hfit cap hcap)
              have hge:=grownCap_ge w (rows.length + ys.length) cap e
              refine ⟨_,_,_,hrun _ _ (by rw [hv];exact hr),NewBlock.after (SameMem.drew w) (NewBlock.alloc w.drew _),?_,hge,fun j hj=>?_⟩
              · simp only [Array.size_append,List.size_toArray,List.length_append,hol,hvl,Builtin.zeroCells,Array.size_map,Array.size_range,hzs]
                rw [← Nat.add_mul,← Nat.add_mul]
                congr 1
                omega
              · rw [Array.getElem?_append,if_pos (by simpa using hj)]
                simp
            have fresh:∀ (base:Option Addr) (cap k:Nat),η x = .slice base rows.length cap→cap < rows.length + ys.length →
                (∀ (w':World) (cs:Array Value) (ncap:Nat),NewBlock w w' (.cells cs e)→rows.length + ys.length ≤ ncap→cs.size = ncap * sz→∃ L',Ext L.φ.length L H.tips w L' H'.tips w' ∧ Sim gt H' L' w' ∧ L'.τ[k]? = some (some (w.heap.size,sz,ncap)) ∧ L'.I w.heap.size = (rows.length + ys.length) * sz) →
                H'.tips[k]? = some (rows.length + ys.length)→u = .own (rows ++ ys) (.tok k sz)→Good P gt η o H L w u H':=by
              rintro base cap k hv hcap hmk ht rfl
              obtain ⟨ncap,cs,w',hr,nb,hsz,hge,hcs⟩:=grow base cap hv hcap
              obtain ⟨L',e1,e2,e3,e4⟩:=hmk w' cs ncap nb hge hsz
              refine ⟨_,_,w',L',hr,.inl rfl,e1,e2,?_⟩
              rw [← hsum]
              refine own_rel (X:=olds ++ vals) hallxy (by omega) ?_ nb.new hcs (by rw [e4,hsum]) (by rw [hsum];exact ht) e3 hn0
              rw [List.flatten_append]
              exact (old.dc.grow e1.grow).append (src.dc.grow e1.grow)
            split at h
            · simp only [Option.some.injEq,Prod.mk.injEq] at h
              obtain ⟨rfl,rfl⟩:=h
              have hv:∃ a,η x = .slice a rows.length rows.length:=by cases va with | own _ _ _ _ hok=>obtain ⟨a,h1,_⟩:=hok;exact ⟨a,h1⟩
              obtain ⟨a,hv⟩:=hv
              refine fresh a rows.length _ hv (by omega) (fun w' cs ncap nb hge hsz=>?_) ?_ rfl
              · obtain ⟨L',e1,e2,e3,_,e5⟩:=S.newTip nb (rows.length + ys.length) sz ncap L.φ.length hge hsz
                exact ⟨L',e1,e2,e3,e5⟩
              · simp
            · rename_i k sk
              split at h
              · rename_i n hk
                split at h
                · rename_i hcond
                  obtain ⟨rfl,hsk⟩:=hcond
                  simp only [Option.some.injEq,Prod.mk.injEq] at h
                  obtain ⟨rfl,rfl⟩:=h
                  have htk:(H.tips.set k (rows.length + ys.length))[k]? = some (rows.length + ys.length):=by
                    rw [List.getElem?_set,if_pos rfl,if_pos (lt_of_getElem? hk)]
                  cases va with
                  | own _ _ _ _ hok=>
                    obtain ⟨k',hk',_,hent⟩:=hok
                    rw [hk] at hk';cases hk'
                    obtain ⟨ent,hent1,hent2⟩:=hent rfl
                    have move:∀ (base:Option Addr) (cap:Nat),η x = .slice base rows.length cap→cap < rows.length + ys.length→Good P gt η o H L w (.own (rows ++ ys) (.tok k sz)) (H.setTip k (rows.length + ys.length)):=by
                      intro base cap hv hcap
                      refine fresh base cap k hv hcap (fun w' cs ncap nb hge hsz=>?_) htk rfl
                      exact S.tipMove hk (by omega) nb hge hsz
                    cases ent with
                    | none=>
                      obtain ⟨hr0,a,hv⟩:=hent2
                      exact move a 0 (by rw [hr0];exact hv) (by omega)
                    | some q=>
                      obtain ⟨bb,s',cap⟩:=q
                      obtain ⟨rfl,hs0,hv⟩:=hent2
                      have hss:s' = sz:=hsk.resolve_right hs0
                      subst hss
                      rcases Nat.lt_or_ge cap (rows.length + ys.length) with hlt | hge
                      · exact move _ cap hv hlt
                      · obtain ⟨hIb,hncap,cs,elem,hcc,hcs⟩:=S.tip k _ bb s' cap hk hent1
                        have hle:rows.length * s' + vals.length ≤ cs.size:=by
                          rw [hcs,hvl,← Nat.add_mul]
                          exact Nat.mul_le_mul_right _ hge
                        have hr:=run_append_room_src (P:=P) w s s o.type e i h1 hi bb 0 rows.length cap (η y) ys.length vals srcK hge (fun j hj=>by
                          rw [hin,hcc.cell,Array.getElem?_eq_getElem (by omega)];rfl) (fun j hj=>hcc.frozen _ (by rw [hin];omega))
                        rw [hin,Nat.zero_add,setCells_block hcc hle src.dc.one] at hr
                        generalize hcs':(cs.toList.take (rows.length * s') ++ vals ++ cs.toList.drop (rows.length * s' + vals.length)).toArray = cs' at hr
                        have hsz':cs'.size = cs.size:=by rw [← hcs'];simp;omega
                        have hpre:∀ j,j < rows.length * s'→cs'[j]? = cs[j]?:=fun j hj=>by
                          rw [← hcs']
                          simp only [List.getElem?_toArray]
                          rw [List.append_assoc,List.getElem?_append_left (by simp;omega),List.getElem?_take,if_pos hj]
                          simp
                        have hmid:∀ j,j < vals.length→cs'[rows.length * s' + j]? = vals[j]?:=fun j hj=>by
                          rw [← hcs']
                          simp only [List.getElem?_toArray]
                          rw [List.append_assoc,List.getElem?_append_right (by simp;omega),List.getElem?_append_left (by simp;omega)]
                          congr 1
                          simp
                          omega
                        obtain ⟨L',e1,e2,e3,e4⟩:=S.tipRoom (m:=rows.length + ys.length) hk (by omega) hent1 (OneBlock.setRow w bb cs') hcc (hcc.setRow hsz') hsz' hpre hge
                        refine ⟨_,_,_,L',hrun _ _ (by rw [hv];exact hr),.inl rfl,e1,e2,?_⟩
                        have hoc:∀ j,j < olds.length→cs[j]? = olds[j]?:=by
                          intro j hj
                          have hq:=old.lies bb 0 _ _ hv j _ (List.getElem?_eq_getElem hj)
                          rw [hcc.cell,Nat.zero_add] at hq
                          rw [hq,List.getElem?_eq_getElem hj]
                        rw [← hsum]
                        refine own_rel (X:=olds ++ vals) (cs:=cs') (elem:=elem) (fz:=(hcc.setRow hsz').choose) hallxy (by omega) ?_ (hcc.setRow hsz').choose_spec.1 ?_ (by rw [e4,hsum]) (by rw [hsum];exact htk) e3 hs0
                        · rw [List.flatten_append]
                          exact (old.dc.grow e1.grow).append (src.dc.grow e1.grow)
                        · intro j hj
                          rcases Nat.lt_or_ge j olds.length with hj1 | hj1
                          · rw [List.getElem?_append_left hj1,hpre j (by omega)]
                            exact hoc j hj1
                          · rw [List.getElem?_append_right hj1]
                            simp only [List.length_append] at hj
                            have:=hmid (j - olds.length) (by omega)
                            rw [← this]
                            congr 1
                            omega
                · cases h
              · cases h
          · cases h
      · rename_i rows
        split at h
        · rename_i hys0
          simp only [Option.some.injEq,Prod.mk.injEq] at h
          obtain ⟨rfl,rfl⟩:=h
          refine .same S ?_ va
          cases va with
          | d _ _ hd=>
            rcases drel_sl.1 hd with ⟨rfl,a,cap,hv⟩ | ⟨b,off,cap,_,hv,hcap,_⟩
            · exact nothing _ _ _ hys0 hv (Nat.zero_le _)
            · exact nothing _ _ _ hys0 hv hcap
        · cases h
      · cases h
    · cases h
  · cases h
end
end
end Am
