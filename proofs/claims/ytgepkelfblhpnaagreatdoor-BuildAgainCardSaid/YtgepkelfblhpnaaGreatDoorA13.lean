/- A part of the proof of BuildAgain: no condition of its own. Whence: AmDrawE, AmExec. -/
import Derived.Test.YtgepkelfblhpnaaGreatDoorA12
import Derived.LoopN
import Derived.Scope
set_option linter.all false
namespace Am
open Go
section
variable {P:Program} {gt:Nat→Option (List D)} {L L' L0:Lay} {H H':St} {w w' w0:World} {tips tips' tips0:List Nat} {call:CallT}
variable {ops:Array Oper} {hops:List HOper} {N base:Nat} {E:Nat→Env} {M:Nat→St} {V:Nat→HV}
theorem filter_less {α:Type} {p p':α→Bool}:∀ {l:List α} {q:α},(∀ x,p' x = true→p x = true)→q ∈ l→p q = true→p' q = false→(l.filter p').length < (l.filter p).length
  | x :: l,q,h,hq,h1,h2=>by
    have le:∀ l:List α,(l.filter p').length ≤ (l.filter p).length:=by
      intro l
      induction l with
      | nil=>simp
      | cons y l ih=>
        simp only [List.filter_cons]
        split
        · rename_i hy;rw [if_pos (h y hy)];simpa using ih
        · split
          · simp only [List.length_cons];omega
          · exact ih
    cases hq with
    | head=>
      simp only [List.filter_cons,h1,h2,if_true,Bool.false_eq_true,if_false,List.length_cons]
      have:=le l
      omega
    | tail _ hq=>
      have:=filter_less (p:=p) (p':=p') h hq h1 h2
      simp only [List.filter_cons]
      split
      · rename_i hx;rw [if_pos (h x hx)];simpa using this
      · split
        · simp only [List.length_cons];omega
        · exact this
def unl (ops:Array Oper) (S:Nat→Bool):Nat:=((List.range ops.size).filter fun i=>!S i).length
def isIn (listed:Array Bool):Nat→Bool:=fun i=>listed.getD i false
theorem ready_mem {listed:Array Bool} {i:Nat} (hl:listed.size = ops.size):i ∈ Region.ready .any ops listed ↔ i < ops.size ∧ isIn listed i = false ∧ Ready ops (isIn listed) i:=by
  unfold Region.ready
  simp only [List.mem_filter,List.mem_range,Bool.and_eq_true,Bool.not_eq_true']
  constructor
  · rintro ⟨h1,h2,h3⟩
    have hi:i < listed.size:=by omega
    refine ⟨h1,by simpa [isIn,hi] using h2,fun o e ho he hb=>?_⟩
    rw [ho] at h3
    simp only [Option.map_some,Option.getD_some] at h3
    rw [Array.all_eq_true_iff_forall_mem] at h3
    have:=h3 e (by simpa using he)
    simpa [hb,isIn] using this
  · rintro ⟨h1,h2,h3⟩
    have hi:i < listed.size:=by omega
    refine ⟨h1,by simpa [isIn,hi] using h2,?_⟩
    rw [Array.getElem?_eq_getElem h1]
    simp only [Option.map_some,Option.getD_some]
    rw [Array.all_eq_true_iff_forall_mem]
    intro e he
    cases hb:Region.binds .any e with
    | false=>simp
    | true=>
      have:=h3 ops[i] e (Array.getElem?_eq_getElem h1) (by simpa using he) hb
      simpa [isIn] using this
theorem isIn_set {listed:Array Bool} {q:Nat} (h:q < listed.size):isIn (listed.setIfInBounds q true) = also (isIn listed) q:=by
  funext i
  simp only [isIn,also,Array.getD_eq_getD_getElem?]
  by_cases hiq:i = q
  · subst hiq;simp [h]
  · rw [Array.getElem?_setIfInBounds_ne (fun e=>hiq e.symm)]
    simp [hiq]
def DEnd (gt:Nat→Option (List D)) (N base:Nat) (e:Env) (H':St) (L0:Lay) (tips0:List Nat) (w0:World) (a:Act) (w:World):Prop:=
  N ≤ a.tmps.size ∧ a.defers = [] ∧ ∃ L,Ext base L0 tips0 w0 L H'.tips w ∧ Sim gt H' L w ∧ EnvRel e.get L H'.tips w a
theorem Rg.end_ (R:Rg P gt call ops hops N base E M V) {S:Nat→Bool} {a:Act} (D:DInv hops gt ops N base E M L0 tips0 w0 S a w) (h:∀ i,i < hops.length→S i = true) :
    DEnd gt N base (E hops.length) (M hops.length) L0 tips0 w0 a w:=by
  obtain ⟨j,L,hj,hjS,ext,Sm,_,env⟩:=D.ex
  have hM:M j = M hops.length:=by
    rcases R.first (hops.length - j) j (by omega) with h1 | ⟨i,x,h1,h2,h3,h4,_⟩
    · rw [h1];congr 1;omega
    · have:=(hjS i x h3 h4).1 (h i (lt_of_getElem? h3));omega
  rw [hM] at ext Sm env
  exact ⟨D.tm,D.df,L,ext,Sm,fun d u hd=>env d _ u (Nat.le_refl _) (fun i o ho _=>by
    have:=lt_of_getElem? ho
    simp [h i this,this]) hd⟩
theorem Rg.any (R:Rg P gt call ops hops N base E M V) (C:CallsOk P gt call) (K:CallKeeps call) {Q:Exit→Act→World→Prop}
    (hQ:∀ a w,DEnd gt N base (E hops.length) (M hops.length) L0 tips0 w0 a w→Q .normal a w):∀ (fuel:Nat) (listed:Array Bool) (a:Act) (w:World),listed.size = ops.size →
    unl ops (isIn listed) ≤ fuel→DInv hops gt ops N base E M L0 tips0 w0 (isIn listed) a w→wpAny P .any ops Q fuel listed a w:=by
  have noneReady:∀ (listed:Array Bool) (a:Act) (w:World),listed.size = ops.size→DInv hops gt ops N base E M L0 tips0 w0 (isIn listed) a w→(∀ i,i < hops.length→isIn listed i = true) ∨ Region.ready .any ops listed ≠ []:=by
    intro listed a w hl D
    by_cases h:∃ i,i < hops.length ∧ isIn listed i = false
    · right
      have:∃ i,(i < hops.length ∧ isIn listed i = false) ∧ ∀ k,k < i→¬ (k < hops.length ∧ isIn listed k = false):=by
        obtain ⟨i,hi⟩:=h
        induction i using Nat.strongRecOn with
        | _ i ih=>
          by_cases hk:∃ k,k < i ∧ (k < hops.length ∧ isIn listed k = false)
          · obtain ⟨k,h1,h2⟩:=hk
            exact ih k h1 h2
          · exact ⟨i,hi,fun k hk' h=>hk ⟨k,hk',h⟩⟩
      obtain ⟨i,⟨h1,h2⟩,h3⟩:=this
      intro hr
      have:i ∈ Region.ready .any ops listed:=(ready_mem hl).2 ⟨by rw [R.len];exact h1,h2,fun o e ho he hb=>by
        have hlt:=R.back i o e ho he hb
        cases hx:isIn listed e.on with
        | true=>rfl
        | false=>exact absurd ⟨by omega,hx⟩ (h3 _ hlt)⟩
      rw [hr] at this
      cases this
    · left
      intro i hi
      cases hx:isIn listed i with
      | true=>rfl
      | false=>exact absurd ⟨i,hi,hx⟩ h
  intro fuel
  induction fuel with
  | zero=>
    intro listed a w hl hu D
    have hall:∀ i,i < hops.length→isIn listed i = true:=by
      intro i hi
      cases hx:isIn listed i with
      | true=>rfl
      | false=>
        have:i ∈ (List.range ops.size).filter fun i=>!isIn listed i:=by simp [hx,R.len,hi]
        have hp:=List.length_pos_of_mem this
        unfold unl at hu
        omega
    refine ⟨?_,hQ a w (R.end_ D hall)⟩
    apply List.eq_nil_iff_forall_not_mem.2
    intro i hi
    obtain ⟨h1,h2,_⟩:=(ready_mem hl).1 hi
    rw [hall i (by rw [← R.len];exact h1)] at h2
    cases h2
  | succ fuel ih=>
    intro listed a w hl hu D
    refine ⟨fun hr=>?_,fun i hi=>?_⟩
    · rcases noneReady listed a w hl D with h | h
      · exact hQ a w (R.end_ D h)
      · exact absurd hr h
    · obtain ⟨h1,h2,h3⟩:=(ready_mem hl).1 hi
      refine R.step_ C K D h3 h2 (by rw [← R.len];exact h1) fun a' w' D'=>?_
      have e:=isIn_set (listed:=listed) (q:=i) (by omega)
      refine ih _ _ _ (by simp [hl]) ?_ (by rw [e];exact D')
      rw [e]
      have:unl ops (also (isIn listed) i) < unl ops (isIn listed):=by
        refine filter_less (q:=i) (fun x hx=>?_) (by simpa using h1) (by simp [h2]) (by simp [also_self])
        simp only [Bool.not_eq_true',also,Bool.or_eq_false_iff] at hx ⊢
        exact hx.2
      omega
theorem Sim.pendings (S:Sim gt H L w) (zs:List (List HV)) (hz:∀ z ∈ zs,∀ v ∈ z,v.loose1 = false) :
    ∃ L0,Ext H.objs.length L H.tips w L0 H.tips w ∧ Sim gt { H with objs:=H.objs ++ zs.map Obj.cells } L0 w ∧ Stays L H.tips w L0 H.tips w ∧
      ∀ (r:Nat) (z:List HV),zs[r]? = some z→L0.φ[H.objs.length + r]? = some none ∧ L0.pc (H.objs.length + r) = z:=by
  have hb:=S.nobj
  let L0:Lay:={ L with φ:=L.φ ++ List.replicate zs.length none,pc:=fun o=>if o < H.objs.length then L.pc o else (zs[o - H.objs.length]?).getD [] }
  have at_:∀ (o:Nat) (x:Option Nat),L0.φ[o]? = some x→(o < H.objs.length ∧ L.φ[o]? = some x) ∨ (∃ r,o = H.objs.length + r ∧ r < zs.length ∧ x = none):=by
    intro o x h
    rcases Nat.lt_or_ge o L.φ.length with hlt | hge
    · simp only [L0] at h
      rw [List.getElem?_append_left hlt] at h
      exact .inl ⟨by omega,h⟩
    · simp only [L0] at h
      rw [List.getElem?_append_right hge,List.getElem?_replicate] at h
      split at h
      · rename_i hr
        simp only [Option.some.injEq] at h
        exact .inr ⟨o - L.φ.length,by omega,hr,h.symm⟩
      · cases h
  have old:∀ (o b:Nat),L0.φ[o]? = some (some b)→o < H.objs.length ∧ L.φ[o]? = some (some b):=by
    intro o b h
    rcases at_ o _ h with h | ⟨_,_,_,h⟩
    · exact h
    · cases h
  have st:Stays L H.tips w L0 H.tips w:=⟨.refl _ _,fun o b h=>by
    show (L.φ ++ _)[o]? = _
    rw [List.getElem?_append_left (lt_of_getElem? h)];exact h,fun _ k h=>⟨k,h,Nat.le_refl _,fun _=>rfl⟩,rfl⟩
  refine ⟨L0,?_,?_,st,fun r z hr=>?_⟩
  · exact {
      grow:=.refl _ _
      φ:=fun o ho=>by
        show (L.φ ++ _)[o]? = _
        rw [List.getElem?_append_left (by omega)]
      tips:=fun _ k h=>⟨k,h,Nat.le_refl _,fun _=>rfl⟩
      size:=Nat.le_refl _
      tape:=rfl
      os:=rfl
      output:=rfl
      drawn:=Nat.le_refl _
      old:=fun _ _=>rfl
      base:=rfl
      pc:=fun o ho=>by simp only [L0];rw [if_pos ho] }
  · exact {
      glob:=S.glob
      nobj:=by simp [L0,S.nobj]
      ntip:=S.ntip
      obj:=fun o b x h1 h2=>by
        obtain ⟨h3,h4⟩:=old o b h2
        simp only at h1
        rw [List.getElem?_append_left h3] at h1
        exact (S.obj o b x h1 h4).move st rfl
      pend:=fun o h=>by
        rcases at_ o _ h with ⟨h1,h2⟩ | ⟨r,rfl,hr,_⟩
        · simp only [L0]
          rw [if_pos h1,List.getElem?_append_left h1]
          exact S.pend o h2
        · simp only [L0]
          rw [if_neg (by omega),List.getElem?_append_right (by omega)]
          have e:H.objs.length + r - H.objs.length = r:=by omega
          rw [e,List.getElem?_map,List.getElem?_eq_getElem hr]
          exact ⟨rfl,hz _ (List.getElem_mem hr)⟩
      tip:=S.tip
      tip0:=S.tip0
      inj:=fun i j b h1 h2=>S.inj i j b (old i b h1).2 (old j b h2).2
      tinj:=S.tinj
      disj:=fun i j b s c h1 h2=>S.disj i j b s c (old i b h1).2 h2
      objI:=fun o b h=>S.objI o b (old o b h).2
      fresh:=S.fresh
      young:=fun c hc=>by
        rcases hc with ⟨o,h⟩ | h
        · exact S.young c (.inl ⟨o,(old o c h).2⟩)
        · exact S.young c (.inr h)
      baseLe:=S.baseLe }
  · have hlt:=lt_of_getElem? hr
    constructor
    · show (L.φ ++ _)[_]? = _
      rw [List.getElem?_append_right (by omega),List.getElem?_replicate,if_pos (by omega)]
    · simp only [L0]
      rw [if_neg (by omega),show H.objs.length + r - H.objs.length = r by omega,hr]
      rfl
structure RegionOk (P:Program) (gt:Nat→Option (List D)) (N:Nat) (ops:Array Oper) (hops:List HOper):Prop where
  len:ops.size = hops.length
  ok:∀ (k:Nat) (ho:HOper),hops[k]? = some ho→∃ o,OpOk P gt ops N k ho o
theorem drawOk_inv (h:drawOk P ops hops = true):P.follows .mixedOrders = true ∧
    (∀ (k:Nat) (o:Oper) (e:Edge),ops[k]? = some o→e ∈ o.after.toList→Region.binds .any e = true→e.on < k) ∧
    (∀ (i j:Nat) (x y:HOper),hops[i]? = some x→hops[j]? = some y→pairOk (Region.before ops) (x,i) (y,j) = true) ∧
    (∀ (k:Nat) (o:HOper) (z:List HV),hops[k]? = some o→o.op = .alloc z→o.guard = none ∧ o.dst.isSome = true ∧ ∀ v ∈ z,v.loose1 = false):=by
  unfold drawOk at h
  simp only [Bool.and_eq_true,List.all_eq_true] at h
  obtain ⟨⟨⟨h1,h2⟩,h3⟩,h4⟩:=h
  refine ⟨h1,fun k o e ho he hb=>?_,fun i j x y hx hy=>?_,fun k o z ho hz=>?_⟩
  · have:=h2 (o,k) (by rw [List.mem_zipIdx_iff_getElem?];simpa using ho) e he
    simpa [hb] using this
  · exact h3 (x,i) (by rw [List.mem_zipIdx_iff_getElem?];exact hx) (y,j) (by rw [List.mem_zipIdx_iff_getElem?];exact hy)
  · have:=h4 o (List.mem_iff_getElem?.2 ⟨k,ho⟩)
    rw [hz] at this
    simpa [and_assoc] using this
theorem draw_wp (C:CallsOk P gt call) (K:CallKeeps call) (ro:RegionOk P gt N ops hops) (hd:drawOk P ops hops = true) {e e1 e2:Env} {H1 H2:St} {a:Act} {Q:Exit→Act→World→Prop} {id:Nat}
    (S:Sim gt H L w) (R:EnvRel e.get L H.tips w a) (hN:N ≤ a.tmps.size) (hdf:a.defers = [])
    (ha:runAllocs call hops e H = some (e1,H1)) (hdr:drawOps call hops 0 e1 H1 [] [] = some (e2,H2))
    (hQ:∀ a' w',DEnd gt N H.objs.length e2 H2 L H.tips w a' w'→Q .normal a' w'):(Code.region id ops true).wp P Q a w:=by
  obtain ⟨hm,hback,hpair,hal⟩:=drawOk_inv hd
  refine wp_region_any hm ?_
  obtain ⟨E,M,V,T⟩:=drawOps_trace hops 0 e1 H1 [] [] e2 H2 hdr
  have hgn:∀ o ∈ hops,o.op.isAlloc = true→o.guard = none:=fun o ho hx=>by
    obtain ⟨k,hk⟩:=List.mem_iff_getElem?.1 ho
    obtain ⟨z,hz,_⟩:=allocZ_some hx
    exact (hal k o z hk hz).1
  obtain ⟨hH1,hget,hgetA⟩:=runAllocs_shape hops e e1 H H1 ha hgn
  have step:=T.step
  have big:∀ k:Nat,k ≤ hops.length→H.objs.length ≤ (M k).objs.length:=by
    intro k
    induction k with
    | zero=>intro _;rw [T.m0,hH1];simp
    | succ k ih=>
      intro hk
      have ih:=ih (by omega)
      obtain ⟨o,ho⟩:∃ o,hops[k]? = some o:=⟨_,List.getElem?_eq_getElem (by omega)⟩
      cases step k o ho with
      | alloc _ _ h3=>rw [h3];exact ih
      | off _ _ _ _ h3=>rw [h3];exact ih
      | look _ _ _ _ _ _ h3=>rw [h3];exact ih
      | eff _ _ _ h3 _=>exact Nat.le_trans ih (step_keeps K h3).objs
  have behind:∀ (i j d:Nat) (x y:HOper),hops[i]? = some x→hops[j]? = some y→x.op.isAlloc = true→x.dst = some d→d ∈ y.names→i ≠ j→i < j:=fun i j d x y hx hy hax hdx hdy hne=>
    ((pair_inv (hpair i j x y hx hy) hne).2.1 d hdx hdy).2 hax
  have RG:Rg P gt call ops hops N H.objs.length E M V:={
    ok:=ro.ok
    len:=ro.len
    pair:=hpair
    al:=fun k o ho hx=>hgn o (List.mem_iff_getElem?.2 ⟨k,ho⟩) hx
    back:=hback
    step:=step
    early:=fun j k oj ok hjk hj hk h1 h2 h3 h4=>T.early j k oj ok hjk hj hk h1 h2 (by simpa using h3) h4
    late:=fun j k oj ok hjk hj hk h1 h2 h3 h4=>T.late j k oj ok hjk hj hk h1 h2 (by simpa using h3) h4
    zero:=fun k d o ho hx hdo=>by
      rw [T.e0]
      refine hgetA k d o ho hx hdo fun j x hj hxa hxd=>?_
      rcases Decidable.em (j = k) with h | h
      · exact h
      · have h1:=behind j k d x o hj ho hxa hxd (by simp [HOper.names,hdo]) h
        have h2:=behind k j d o x ho hj hx hdo (by simp [HOper.names,hxd]) (fun e=>h e.symm)
        omega
    big:=big }
  obtain ⟨L0,ext0,S0,st0,hp0⟩:=S.pendings (hops.filterMap allocZ) (fun z hz v hv=>by
    obtain ⟨o,ho,hzo⟩:=List.mem_filterMap.1 hz
    obtain ⟨k,hk⟩:=List.mem_iff_getElem?.1 ho
    obtain ⟨z',hz',hzz⟩:=allocZ_some (allocZ_is hzo)
    rw [hzo] at hzz
    cases hzz
    exact (hal k o z hk hz').2.2 v hv)
  have sm:SameMem w { w with drawn:=w.drawn + 1 }:=⟨rfl,rfl,rfl,rfl,Nat.le_succ _⟩
  have isF:isIn (Array.replicate ops.size false) = fun _=>false:=by
    funext i
    simp only [isIn,Array.getD_eq_getD_getElem?,Array.getElem?_replicate]
    split <;> rfl
  have htips:H1.tips = H.tips:=by rw [hH1]
  refine RG.any C K (L0:=L) (tips0:=H.tips) (w0:=w) (fun a' w' h=>hQ a' w' (by rw [T.e1,T.m1] at h;exact h)) ops.size _ a _ (by simp) ?_ ?_
  · unfold unl
    exact Nat.le_trans (List.length_filter_le _ _) (by simp)
  · rw [isF]
    refine ⟨fun i o e h=>(by cases h),hN,hdf,0,L0,Nat.zero_le _,fun i o _ _=>by simp,?_,?_,fun k o z ho hz _=>hp0 _ z (rank_at ho hz),?_⟩
    · rw [T.m0,htips]
      exact ext0.trans (sm.ext _ _ _)
    · rw [T.m0,hH1]
      exact S0.same sm
    · rw [T.m0,htips]
      intro d k u hk ht hu
      have nw:∀ (i:Nat) (o:HOper),hops[i]? = some o→o.dst = some d→¬ (i < k) ∧ o.op.isAlloc = false:=fun i o ho hdo=>by
        have:=ht i o ho hdo
        simp only [Bool.false_eq_true,false_iff,not_or] at this
        exact ⟨this.1,by simpa using this.2⟩
      have h1:=RG.kept (d:=d) k 0 (by omega) fun i o _ h2 ho hdo=>absurd (by omega) (nw i o ho hdo).1
      rw [Nat.zero_add] at h1
      rw [h1,T.e0,hget d fun o ho hax hdo=>by
        obtain ⟨i,hi⟩:=List.mem_iff_getElem?.1 ho
        have:=(nw i o hi hdo).2
        rw [hax] at this
        cases this] at hu
      obtain ⟨v,h2,h3⟩:=R d u hu
      exact ⟨v,h2,(h3.move st0).move (sm.stays _ _)⟩
end
end Am
namespace Am
open Go
section
variable {P:Program} {gt:Nat→Option (List D)} {L L' L0:Lay} {H H':St} {w w' w0:World} {tips tips' tips0:List Nat} {call:CallT} {N:Nat}
def HC.strip:HC→HC
  | .region d ops _=>.region d ops []
  | .seq a b=>.seq a.strip b.strip
  | .cond c a b=>.cond c a.strip b.strip
  | .block id _ b=>.block id [] b.strip
  | .loop _ b=>.loop [] b.strip
  | .scope b=>.scope b.strip
  | c=>c
def HC.dstOk (N:Nat):HC→Bool
  | .region _ ops _=>ops.all fun o=>match o.dst with | some d=>decide (d < N) | none=>true
  | .seq a b=>a.dstOk N && b.dstOk N
  | .cond _ a b=>a.dstOk N && b.dstOk N
  | .block _ _ b=>b.dstOk N
  | .loop _ b=>b.dstOk N
  | .scope b=>b.dstOk N
  | _=>true
theorem mapM_get {α β:Type} {f:α→Option β}:∀ {l:List α} {r:List β},l.mapM f = some r→l.length = r.length ∧ ∀ (k:Nat) (x:α),l[k]? = some x→∃ y,r[k]? = some y ∧ f x = some y
  | [],r,h=>by rw [mapM_some_nil h];exact ⟨rfl,fun k x h=>by simp at h⟩
  | x :: l,r,h=>by
    obtain ⟨y,ys,h1,h2,rfl⟩:=mapM_some_cons h
    obtain ⟨h3,h4⟩:=mapM_get h2
    refine ⟨by simp [h3],fun k z hz=>?_⟩
    cases k with
    | zero=>simp only [List.getElem?_cons_zero,Option.some.injEq] at hz;subst hz;exact ⟨y,rfl,h1⟩
    | succ k=>simpa using h4 k z (by simpa using hz)
theorem cRegion_inv {ops:Array Oper} {draw draw':Bool} {hops:List HOper} {keep:List Nat} (h:cRegion P gt ops draw = some (.region draw' hops keep)) (hN:(HC.region draw' hops keep).dstOk N = true) :
    draw' = draw ∧ RegionOk P gt N ops hops ∧ (draw = true→drawOk P ops hops = true):=by
  unfold cRegion at h
  split at h
  · rename_i hs gs hhs hgs
    obtain ⟨l1,g1⟩:=mapM_get hhs
    obtain ⟨l2,g2⟩:=mapM_get hgs
    dsimp only at h
    generalize hg:List.map _ (List.zipIdx _) = hops' at h
    split at h
    · cases h
    · rename_i hd
      simp only [Option.some.injEq,HC.region.injEq] at h
      obtain ⟨rfl,rfl,rfl⟩:=h
      subst hg
      refine ⟨rfl,⟨?_,fun k ho hk=>?_⟩,fun ht=>?_⟩
      · simp only [List.length_map,List.length_zipIdx,List.length_zip,← l1,← l2,Array.length_toList]
        simp
      · have hkl:=lt_of_getElem? hk
        simp only [List.length_map,List.length_zipIdx,List.length_zip,← l1,← l2,Array.length_toList,Nat.min_self] at hkl
        have ho':=Array.getElem?_eq_getElem hkl
        obtain ⟨y,hy,hy'⟩:=g1 k ops[k] (by rw [Array.getElem?_toList];exact ho')
        obtain ⟨z,hz,hz'⟩:=g2 k ops[k] (by rw [Array.getElem?_toList];exact ho')
        have hzip:((ops.toList.zip hs).zip gs)[k]? = some ((ops[k],y),z):=by
          rw [List.getElem?_zip_eq_some]
          exact ⟨List.getElem?_zip_eq_some.2 ⟨by rw [Array.getElem?_toList];exact ho',hy⟩,hz⟩
        have hk':=hk
        simp only [List.getElem?_map,List.getElem?_zipIdx,hzip,Option.map_some,Option.some.injEq] at hk
        subst hk
        refine ⟨ops[k],ho',rfl,fun d hd=>?_,hy',hz'⟩
        simp only [HC.dstOk,List.all_eq_true] at hN
        have:=hN _ (List.mem_iff_getElem?.2 ⟨k,hk'⟩)
        simp only [hd,decide_eq_true_eq] at this
        exact this
      · subst ht
        simpa using hd
  · cases h
theorem cRegion_form {ops:Array Oper} {draw:Bool} {x:HC} (h:cRegion P gt ops draw = some x):∃ hops,x = .region draw hops []:=by
  unfold cRegion at h
  split at h
  · dsimp only at h
    generalize hg:List.map _ (List.zipIdx _) = hops' at h
    split at h
    · cases h
    · simp only [Option.some.injEq] at h
      exact ⟨_,h.symm⟩
  · cases h
theorem get_mem {e:Env}:∀ {k:Nat} {u:HV},e.get k = some u→(k,u) ∈ e:=by
  induction e with
  | nil=>intro k u h;simp [Env.get] at h
  | cons p e ih=>
    obtain ⟨j,v⟩:=p
    intro k u h
    simp only [Env.get] at h
    split at h
    · rename_i hj;subst hj;simp only [Option.some.injEq] at h;subst h;exact List.mem_cons_self
    · exact List.mem_cons_of_mem _ (ih h)
theorem DEnd.restrict {base:Nat} {e:Env} {a:Act} {ks:List Nat} (h:DEnd gt N base e H' L0 tips0 w0 a w):DEnd gt N base (e.restrict ks) H' L0 tips0 w0 a w:=by
  obtain ⟨h1,h2,L,h3,h4,h5⟩:=h
  exact ⟨h1,h2,L,h3,h4,h5.mono fun k u hk=>restrict_get hk⟩
theorem DEnd.low {base:Nat} {e:Env} {a:Act} {low:Option Nat} (h:DEnd gt N base e H' L0 tips0 w0 a w):DEnd gt N base e { H' with low } L0 tips0 w0 a w:=by
  obtain ⟨h1,h2,L,h3,h4,h5⟩:=h
  exact ⟨h1,h2,L,h3,h4.congr rfl rfl,h5⟩
theorem clean_of (S:Sim gt H L w) (k:Keeps { H with low:=none } H') (hl:lowOk H.objs.length H'.low = true) (o:Nat) (c:List HV) (ho:o < H.objs.length) (hc:H'.objs[o]? = some (.cells c)) :
    Unds H.objs.length H.tips.length c:=
  k.clean _ _ (Nat.le_refl _) (Nat.le_refl _) (fun _ o c _ h=>S.unds h) hl o c ho hc
theorem close_sound {keep:List Nat} {e':Env} {a:Act} (S:Sim gt H L w) (k:Keeps { H with low:=none } H') (h:DEnd gt N H.objs.length e' H' L H.tips w a w') :
    DEnd gt N H.objs.length (closeRound H keep e' H').1 (closeRound H keep e' H').2 L H.tips w a w':=by
  unfold closeRound
  dsimp only
  split
  · rename_i hc
    simp only [Bool.and_eq_true,List.all_eq_true] at hc
    obtain ⟨hlow,hall⟩:=hc
    obtain ⟨h1,h2,L',h3,h4,h5⟩:=h.restrict (ks:=keep)
    have T:=TipCut.all h4 H'.tips.length
    refine ⟨h1,h2,{ L' with φ:=L'.φ.take H.objs.length,τ:=L'.τ },h3.cutAt (Nat.le_refl _) k.tips T,h4.cutAt k.objs T _ fun o c ho hoc=>?_,fun j u hu=>?_⟩
    · exact Unds.mono (Nat.le_refl _) k.tips (clean_of S k hlow o c ho hoc)
    · obtain ⟨v,hv1,hv2⟩:=h5 j u hu
      exact ⟨v,hv1,hv2.cutAt T (und_under (hall (j,u) (get_mem hu)))⟩
  · exact h.restrict.low
def outExit:Out→Exit
  | .normal=>.normal
  | .exit id=>.exit id
  | .ret=>.ret
def StepOk (P:Program) (gt:Nat→Option (List D)) (N:Nat) (s:Step) (c:Code):Prop:=
  ∀ e H o e' H',s e H = some (o,e',H')→∀ L w a,Sim gt H L w→EnvRel e.get L H.tips w a→N ≤ a.tmps.size→a.defers = [] →
    ∀ Q:Exit→Act→World→Prop,(∀ a' w',DEnd gt N H.objs.length e' H' L H.tips w a' w'→Q (outExit o) a' w')→c.wp P Q a w
theorem round_ok {keep:List Nat} {body:Step} {c:Code} (h:StepOk P gt N body c) (hk:StepKeeps body):StepOk P gt N (round keep body) c:=by
  intro e H o e' H' hr L w a S R hN hd Q hQ
  unfold round at hr
  have S0:Sim gt { H with low:=none } L w:=S.congr rfl rfl
  have R0:EnvRel (e.restrict keep).get L H.tips w a:=R.mono fun k u hk=>restrict_get hk
  split at hr
  · rename_i e1 H1 hb
    simp only [Option.some.injEq,Prod.mk.injEq] at hr
    obtain ⟨rfl,rfl,rfl⟩:=hr
    refine h _ _ _ _ _ hb L w a S0 R0 hN hd Q fun a' w' hp=>hQ a' w' ?_
    exact close_sound S (hk _ _ _ _ _ hb) hp
  · rename_i o1 e1 H1 hne hb
    simp only [Option.some.injEq,Prod.mk.injEq] at hr
    obtain ⟨rfl,rfl,rfl⟩:=hr
    exact h _ _ _ _ _ hb L w a S0 R0 hN hd Q fun a' w' hp=>hQ a' w' hp.low
  · cases hr
theorem iter_ok {s:Step} {c:Code} (h:StepOk P gt N s c) (hk:StepKeeps s):∀ n,∀ e H o e' H',iter s n e H = some (o,e',H')→∀ L w a,Sim gt H L w→EnvRel e.get L H.tips w a→N ≤ a.tmps.size→a.defers = [] →
    ∀ Q:Exit→Act→World→Prop,(∀ a' w',DEnd gt N H.objs.length e' H' L H.tips w a' w'→Q (outExit o) a' w')→Code.rounds P c Q n a w
  | 0,e,H,o,e',H',hr=>by cases hr
  | n + 1,e,H,o,e',H',hr=>by
    intro L w a S R hN hd Q hQ
    simp only [iter] at hr
    rw [rounds_succ]
    split at hr
    · rename_i e1 H1 hs
      refine h _ _ _ _ _ hs L w a S R hN hd _ fun a1 w1 hp=>?_
      obtain ⟨h1,h2,L1,h3,h4,h5⟩:=hp
      refine iter_ok h hk n e1 H1 o e' H' hr L1 w1 a1 h4 h5 h1 h2 Q fun a2 w2 hp2=>hQ a2 w2 ?_
      obtain ⟨g1,g2,L2,g3,g4,g5⟩:=hp2
      exact ⟨g1,g2,L2,ext_then h3 g3 (hk _ _ _ _ _ hs).objs,g4,g5⟩
    · rename_i hne
      refine h _ _ _ _ _ hr L w a S R hN hd _ fun a1 w1 hp=>?_
      have:=hQ a1 w1 hp
      cases o with
      | normal=>exact absurd hr (hne _ _)
      | exit i=>exact this
      | ret=>exact this
theorem exec_ok (C:CallsOk P gt call) (K:CallKeeps call) (n:Nat):∀ (hc:HC) (c:Code),cCode P gt c = some hc.strip→hc.dstOk N = true→StepOk P gt N (exec n call hc) c
  | hc,.skip,h,hN=>by
    simp only [cCode,Option.some.injEq] at h
    cases hc <;> simp only [HC.strip,reduceCtorEq] at h
    intro e H o e' H' hr L w a S R hN hd Q hQ
    simp only [exec,Option.some.injEq,Prod.mk.injEq] at hr
    obtain ⟨rfl,rfl,rfl⟩:=hr
    exact wp_skip (hQ a w ⟨hN,hd,L,.refl _ _ _ _,S,R⟩)
  | hc,.region id ops draw,h,hN=>by
    simp only [cCode] at h
    obtain ⟨hops0,hform⟩:=cRegion_form h
    cases hc <;> simp only [HC.strip,reduceCtorEq] at hform
    rename_i draw' hops keep
    obtain ⟨rfl,ro,hdr⟩:=cRegion_inv (N:=N) h (by simpa [HC.dstOk] using hN)
    intro e H o e' H' hr L w a S R hM hd Q hQ
    simp only [exec] at hr
    split at hr
    · rename_i e1 H1 hx
      simp only [Option.some.injEq,Prod.mk.injEq] at hr
      obtain ⟨rfl,rfl,rfl⟩:=hr
      cases hdw:draw' with
      | true=>
        subst hdw
        simp only [if_true] at hx
        split at hx
        · rename_i e0 H0 hal
          exact draw_wp C K ro (hdr rfl) S R hM hd hal hx fun a' w' hp=>hQ a' w' hp.restrict
        · cases hx
      | false=>
        subst hdw
        simp only [Bool.false_eq_true,if_false] at hx
        refine wp_region ?_
        rw [List.range_eq_range']
        refine runOps_wp C K (ops:=ops) (N:=N) hops 0 ops.size e e1 H H1 L w a (fun k ho hk=>?_) ro.len.symm S R hM hd hx fun a' w' hp=>hQ a' w' ?_
        · rw [Nat.zero_add];exact ro.ok k ho hk
        · obtain ⟨_,p2,p3,L2,p4,p5,p6⟩:=hp
          exact DEnd.restrict ⟨p2,p3,L2,p4,p5,p6⟩
    · cases hr
  | hc,.seq x y,h,hN=>by
    simp only [cCode] at h
    split at h
    · rename_i hx hy h1 h2
      simp only [Option.some.injEq] at h
      cases hc <;> simp only [HC.strip,reduceCtorEq,HC.seq.injEq] at h
      rename_i p q
      obtain ⟨rfl,rfl⟩:=h
      simp only [HC.dstOk,Bool.and_eq_true] at hN
      have ih1:=exec_ok C K n p x h1 hN.1
      have ih2:=exec_ok C K n q y h2 hN.2
      intro e H o e' H' hr L w a S R hN hd Q hQ
      simp only [exec] at hr
      refine wp_seq ?_
      split at hr
      · rename_i e1 H1 hs
        refine ih1 _ _ _ _ _ hs L w a S R hN hd _ fun a1 w1 hp=>?_
        obtain ⟨h1,h2,L1,h3,h4,h5⟩:=hp
        refine ih2 _ _ _ _ _ hr L1 w1 a1 h4 h5 h1 h2 Q fun a2 w2 hp2=>hQ a2 w2 ?_
        obtain ⟨g1,g2,L2,g3,g4,g5⟩:=hp2
        exact ⟨g1,g2,L2,ext_then h3 g3 (exec_keeps K p _ _ _ _ _ hs).objs,g4,g5⟩
      · rename_i hne
        refine ih1 _ _ _ _ _ hr L w a S R hN hd _ fun a1 w1 hp=>?_
        have:=hQ a1 w1 hp
        cases o with
        | normal=>exact absurd hr (hne _ _)
        | exit i=>exact this
        | ret=>exact this
    · cases h
  | hc,.cond cc x y,h,hN=>by
    simp only [cCode] at h
    split at h
    · rename_i c' hx hy h0 h1 h2
      simp only [Option.some.injEq] at h
      cases hc <;> simp only [HC.strip,reduceCtorEq,HC.cond.injEq] at h
      rename_i c'' p q
      obtain ⟨rfl,rfl,rfl⟩:=h
      simp only [HC.dstOk,Bool.and_eq_true] at hN
      have ih1:=exec_ok C K n p x h1 hN.1
      have ih2:=exec_ok C K n q y h2 hN.2
      intro e H o e' H' hr L w a S R hN hd Q hQ
      simp only [exec] at hr
      have op:=opnds_of S.glob R
      split at hr
      · rename_i hv
        exact wp_cond_true (op cc _ _ h0 hv).bool_inv (ih1 _ _ _ _ _ hr L w a S R hN hd Q hQ)
      · rename_i hv
        exact wp_cond_false (op cc _ _ h0 hv).bool_inv (ih2 _ _ _ _ _ hr L w a S R hN hd Q hQ)
      · cases hr
    · cases h
  | hc,.block id x,h,hN=>by
    simp only [cCode] at h
    obtain ⟨hx,h1,h2⟩:=map_mk h
    cases hc <;> simp only [HC.strip,reduceCtorEq,HC.block.injEq] at h2
    rename_i id' keep p
    obtain ⟨rfl,_,rfl⟩:=h2
    simp only [HC.dstOk] at hN
    have ih:=exec_ok C K n p x h1 hN
    intro e H o e' H' hr L w a S R hN hd Q hQ
    simp only [exec] at hr
    refine wp_block ?_
    split at hr
    · rename_i e1 H1 hs
      simp only [Option.some.injEq,Prod.mk.injEq] at hr
      obtain ⟨rfl,rfl,rfl⟩:=hr
      exact ih _ _ _ _ _ hs L w a S R hN hd _ fun a1 w1 hp=>hQ a1 w1 hp.restrict
    · rename_i i e1 H1 hs
      refine ih _ _ _ _ _ hs L w a S R hN hd _ fun a1 w1 hp=>?_
      simp only [outExit,Exit.inBlock]
      split at hr
      · rename_i hi
        simp only [Option.some.injEq,Prod.mk.injEq] at hr
        obtain ⟨rfl,rfl,rfl⟩:=hr
        rw [if_pos hi]
        exact hQ a1 w1 hp.restrict
      · rename_i hi
        simp only [Option.some.injEq,Prod.mk.injEq] at hr
        obtain ⟨rfl,rfl,rfl⟩:=hr
        rw [if_neg hi]
        exact hQ a1 w1 hp
    · rename_i hn1 hn2
      refine ih _ _ _ _ _ hr L w a S R hN hd _ fun a1 w1 hp=>?_
      have:=hQ a1 w1 hp
      cases o with
      | normal=>exact absurd hr (hn1 _ _)
      | exit i=>exact absurd hr (hn2 _ _ _)
      | ret=>exact this
  | hc,.loop x,h,hN=>by
    simp only [cCode] at h
    obtain ⟨hx,h1,h2⟩:=map_mk h
    cases hc <;> simp only [HC.strip,reduceCtorEq,HC.loop.injEq] at h2
    rename_i keep p
    obtain ⟨_,rfl⟩:=h2
    simp only [HC.dstOk] at hN
    have ih:=exec_ok C K n p x h1 hN
    intro e H o e' H' hr L w a S R hN hd Q hQ
    simp only [exec] at hr
    exact wp_loop_rounds n (iter_ok (round_ok ih (exec_keeps K p)) (round_keeps (exec_keeps K p)) n _ _ _ _ _ hr L w a S R hN hd Q hQ)
  | hc,.scope x,h,hN=>by
    simp only [cCode] at h
    obtain ⟨hx,h1,h2⟩:=map_mk h
    cases hc <;> simp only [HC.strip,reduceCtorEq,HC.scope.injEq] at h2
    rename_i p
    subst h2
    simp only [HC.dstOk] at hN
    have ih:=exec_ok C K n p x h1 hN
    intro e H o e' H' hr L w a S R hN hd Q hQ
    simp only [exec] at hr
    refine wp_scope_straight (ih _ _ _ _ _ hr L w a S R hN hd _ fun a1 w1 hp=>?_)
    have:=hQ a1 w1 hp
    cases o <;> exact this
  | hc,.label l,h,hN=>by
    simp only [cCode,Option.some.injEq] at h
    cases hc <;> simp only [HC.strip,reduceCtorEq] at h
    intro e H o e' H' hr L w a S R hN hd Q hQ
    simp only [exec,Option.some.injEq,Prod.mk.injEq] at hr
    obtain ⟨rfl,rfl,rfl⟩:=hr
    exact wp_label (hQ a w ⟨hN,hd,L,.refl _ _ _ _,S,R⟩)
  | hc,.exit id,h,hN=>by
    simp only [cCode,Option.some.injEq] at h
    cases hc <;> simp only [HC.strip,reduceCtorEq,HC.exit.injEq] at h
    subst h
    intro e H o e' H' hr L w a S R hN hd Q hQ
    simp only [exec,Option.some.injEq,Prod.mk.injEq] at hr
    obtain ⟨rfl,rfl,rfl⟩:=hr
    exact wp_exit (hQ a w ⟨hN,hd,L,.refl _ _ _ _,S,R⟩)
  | hc,.ret,h,hN=>by
    simp only [cCode,Option.some.injEq] at h
    cases hc <;> simp only [HC.strip,reduceCtorEq] at h
    intro e H o e' H' hr L w a S R hN hd Q hQ
    simp only [exec,Option.some.injEq,Prod.mk.injEq] at hr
    obtain ⟨rfl,rfl,rfl⟩:=hr
    exact wp_ret (hQ a w ⟨hN,hd,L,.refl _ _ _ _,S,R⟩)
  | hc,.rangeFunc ..,h,hN=>by simp [cCode] at h
  | hc,.goto _,h,hN=>by simp [cCode] at h
  | hc,.refuse _,h,hN=>by simp [cCode] at h
end
end Am
