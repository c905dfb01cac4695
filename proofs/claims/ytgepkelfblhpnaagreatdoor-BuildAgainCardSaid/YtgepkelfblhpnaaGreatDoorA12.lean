/- A part of the proof of BuildAgain: no condition of its own. Whence: AmDrawC, AmDrawD. -/
import Derived.Test.YtgepkelfblhpnaaGreatDoorA11
set_option linter.all false
namespace Am
open Go
section
variable {P:Program} {gt:Nat→Option (List D)} {L L':Lay} {H H':St} {w w':World} {tips tips':List Nat} {call:CallT}
theorem set_get {α:Type} {l:List α} {i o:Nat} {x y:α} (h:(l.set i x)[o]? = some y):(o = i ∧ y = x) ∨ (o ≠ i ∧ l[o]? = some y):=by
  rw [List.getElem?_set] at h
  split at h
  · rename_i hio
    split at h
    · simp only [Option.some.injEq] at h;exact .inl ⟨hio.symm,h.symm⟩
    · cases h
  · rename_i hio;exact .inr ⟨fun e=>hio e.symm,h⟩
theorem set_other {α:Type} {l:List α} {i o:Nat} {x:α} (h:o ≠ i):(l.set i x)[o]? = l[o]?:=by
  rw [List.getElem?_set,if_neg (fun e=>h e.symm)]
theorem Sim.fill (S:Sim gt H L w) {b i:Nat} (hb:b < w.heap.size) (hbb:L.base ≤ b) (hI:L.I b = 0) (ho:¬ Owned L b) (hi:L.φ[i]? = some none) (hx:ObjRel L H.tips w b (.cells (L.pc i))) :
    Sim gt H { L with φ:=L.φ.set i (some b) } w:=by
  have st:Stays L H.tips w { L with φ:=L.φ.set i (some b) } H.tips w:=
    ⟨.refl _ _,fun o b' h=>by
      have:o ≠ i:=fun e=>by subst e;rw [hi] at h;cases h
      show (L.φ.set i (some b))[o]? = _
      rw [set_other this];exact h,fun _ k h=>⟨k,h,Nat.le_refl _,fun _=>rfl⟩,rfl⟩
  exact {
    glob:=S.glob
    nobj:=by simp [S.nobj]
    ntip:=S.ntip
    obj:=fun o b' x h1 h2=>by
      rcases set_get h2 with ⟨rfl,h⟩ | ⟨_,h⟩
      · simp only [Option.some.injEq] at h
        subst h
        rw [(S.pend o hi).1] at h1
        simp only [Option.some.injEq] at h1
        subst h1
        exact hx.move st rfl
      · exact (S.obj o b' x h1 h).move st rfl
    pend:=fun o h2=>by
      rcases set_get h2 with ⟨rfl,h⟩ | ⟨_,h⟩
      · cases h
      · exact S.pend o h
    tip:=S.tip
    tip0:=S.tip0
    inj:=fun j k b' h1 h2=>by
      rcases set_get h1 with ⟨rfl,h3⟩ | ⟨_,h3⟩ <;> rcases set_get h2 with ⟨rfl,h4⟩ | ⟨_,h4⟩
      · rfl
      · simp only [Option.some.injEq] at h3;subst h3;exact absurd (.inl ⟨k,h4⟩) ho
      · simp only [Option.some.injEq] at h4;subst h4;exact absurd (.inl ⟨j,h3⟩) ho
      · exact S.inj j k b' h3 h4
    tinj:=S.tinj
    disj:=fun j k b' s c h1 h2=>by
      rcases set_get h1 with ⟨rfl,h3⟩ | ⟨_,h3⟩
      · simp only [Option.some.injEq] at h3;subst h3;exact ho (.inr ⟨k,s,c,h2⟩)
      · exact S.disj j k b' s c h3 h2
    objI:=fun o b' h=>by
      rcases set_get h with ⟨rfl,h3⟩ | ⟨_,h3⟩
      · simp only [Option.some.injEq] at h3;subst h3;exact ⟨hI,hb⟩
      · exact S.objI o b' h3
    fresh:=S.fresh
    young:=fun c hc=>by
      rcases hc with ⟨o,h⟩ | h
      · rcases set_get h with ⟨_,h3⟩ | ⟨_,h3⟩
        · simp only [Option.some.injEq] at h3;subst h3;exact hbb
        · exact S.young c (.inl ⟨o,h3⟩)
      · exact S.young c (.inr h)
    baseLe:=S.baseLe }
theorem Sim.fillNew (S:Sim gt H L w) {q:Go.Obj} (nb:NewBlock w w' q) {i:Nat} (hi:L.φ[i]? = some none) (hx:ObjRel L H.tips w' w.heap.size (.cells (L.pc i))) :
    ∃ L',Sim gt H L' w' ∧ L'.φ = L.φ.set i (some w.heap.size) ∧ L'.pc = L.pc ∧ (∀ n,n ≤ i→Ext n L H.tips w L' H.tips w') ∧ Stays L H.tips w L' H.tips w':=by
  have S1:=S.alloc nb 0
  have e1:=S.extAlloc (tips:=H.tips) nb 0 L.φ.length
  have hno:¬ Owned (L.withI w.heap.size 0) w.heap.size:=fun h=>Nat.lt_irrefl _ (S.ownedLt h)
  have hI0:(L.withI w.heap.size 0).I w.heap.size = 0:=by simp [Lay.withI]
  have hx':ObjRel (L.withI w.heap.size 0) H.tips w' w.heap.size (.cells (L.pc i)):=
    ObjRel.move (w:=w') ⟨⟨e1.grow.mono,fun b off _=>rfl⟩,fun o b h=>h,fun _ k h=>⟨k,h,Nat.le_refl _,fun _=>rfl⟩,rfl⟩ rfl hx
  have S2:=S1.fill (i:=i) (b:=w.heap.size) (by rw [nb.size];omega) S.baseLe hI0 hno hi hx'
  refine ⟨_,S2,rfl,rfl,fun n hn=>?_,?_⟩
  · exact {
      grow:=e1.grow
      φ:=fun o ho=>by
        show (L.φ.set i (some w.heap.size))[o]? = _
        exact set_other (by omega)
      tips:=fun _ k h=>⟨k,h,Nat.le_refl _,fun _=>rfl⟩
      size:=e1.size
      tape:=nb.tape
      os:=nb.os
      output:=nb.output
      drawn:=nb.drawn
      old:=fun c hc=>nb.old c (Nat.lt_of_lt_of_le hc S.baseLe)
      base:=rfl
      pc:=fun _ _=>rfl }
  · refine ⟨e1.grow,fun o b h=>?_,fun _ k h=>⟨k,h,Nat.le_refl _,fun _=>rfl⟩,rfl⟩
    show (L.φ.set i (some w.heap.size))[o]? = _
    have:o ≠ i:=fun e=>by subst e;rw [hi] at h;cases h
    rw [set_other this]
    exact h
theorem pair_inv {bf:Array Nat} {x y:HOper} {i j:Nat} (h:pairOk bf (x,i) (y,j) = true) (hne:i ≠ j) :
    (x.op.eff = true→y.op.eff = true→ordered bf i j = true) ∧
    (∀ d,x.dst = some d→d ∈ y.names→ordered bf i j = true ∧ (x.op.isAlloc = true→i < j)) ∧
    (x.op.quiet = true→y.op.eff = true→ordered bf i j = false→j ∈ x.un ∧ i ∈ y.un):=by
  unfold pairOk at h
  simp only [Bool.or_eq_true,beq_iff_eq,Bool.and_eq_true] at h
  rcases h with h | ⟨⟨h1,h2⟩,h3⟩
  · exact absurd h hne
  · refine ⟨fun ha hb=>?_,fun d hd hm=>?_,fun ha hb hc=>?_⟩
    · simpa [ha,hb] using h1
    · rw [hd] at h2
      simp only [Bool.or_eq_true,Bool.not_eq_true',List.contains_eq_mem,decide_eq_false_iff_not,Bool.and_eq_true] at h2
      rcases h2 with h2 | ⟨h2,h4⟩
      · exact absurd hm h2
      · refine ⟨h2,fun ha=>?_⟩
        simpa [ha] using h4
    · simpa [ha,hb,hc] using h3
structure Rg (P:Program) (gt:Nat→Option (List D)) (call:CallT) (ops:Array Oper) (hops:List HOper) (N base:Nat) (E:Nat→Env) (M:Nat→St) (V:Nat→HV):Prop where
  ok:∀ (k:Nat) (ho:HOper),hops[k]? = some ho→∃ o,OpOk P gt ops N k ho o
  len:ops.size = hops.length
  pair:∀ (i j:Nat) (x y:HOper),hops[i]? = some x→hops[j]? = some y→pairOk (Region.before ops) (x,i) (y,j) = true
  al:∀ (k:Nat) (o:HOper),hops[k]? = some o→o.op.isAlloc = true→o.guard = none
  back:∀ (k:Nat) (o:Oper) (e:Edge),ops[k]? = some o→e ∈ o.after.toList→Region.binds .any e = true→e.on < k
  step:∀ (k:Nat) (o:HOper),hops[k]? = some o→StepAt call E M V k o
  early:∀ (j k:Nat) (oj ok:HOper),j < k→hops[j]? = some oj→hops[k]? = some ok→EffAct E j oj→QuietAct E k ok→j ∈ ok.un→oj.un ≠ []→∃ H'',stepOp call (evalO (E k)) (M j) ok.op = some (V k,H'')
  late:∀ (j k:Nat) (oj ok:HOper),j < k→hops[j]? = some oj→hops[k]? = some ok→QuietAct E j oj→EffAct E k ok→j ∈ ok.un→oj.un ≠ []→∃ H'',stepOp call (evalO (E j)) (M (k + 1)) oj.op = some (V j,H'')
  zero:∀ (k d:Nat) (o:HOper),hops[k]? = some o→o.op.isAlloc = true→o.dst = some d→(E 0).get d = some (.ref (base + rank hops k) 0)
  big:∀ k:Nat,k ≤ hops.length→base ≤ (M k).objs.length
def AtTime (hops:List HOper) (S:Nat→Bool) (d k:Nat):Prop:=
  ∀ (i:Nat) (o:HOper),hops[i]? = some o→o.dst = some d→(S i = true ↔ (i < k ∨ o.op.isAlloc = true))
def EnvAt (hops:List HOper) (E:Nat→Env) (S:Nat→Bool) (L:Lay) (tips:List Nat) (w:World) (a:Act):Prop:=
  ∀ (d k:Nat) (u:HV),k ≤ hops.length→AtTime hops S d k→(E k).get d = some u→∃ v,a.tmps[d]? = some v ∧ VRel L tips w u v
section
variable {ops:Array Oper} {hops:List HOper} {N base:Nat} {E:Nat→Env} {M:Nat→St} {V:Nat→HV} {S:Nat→Bool} {q:Nat}
theorem Rg.at_ (R:Rg P gt call ops hops N base E M V) {k:Nat} (h:k < hops.length):∃ o,hops[k]? = some o:=⟨_,List.getElem?_eq_getElem h⟩
theorem Rg.first (R:Rg P gt call ops hops N base E M V):∀ (n j:Nat),j + n ≤ hops.length →
    M j = M (j + n) ∨ ∃ i o,j ≤ i ∧ i < j + n ∧ hops[i]? = some o ∧ EffAct E i o ∧ M j = M i
  | 0,_,_=>.inl rfl
  | n + 1,j,h=>by
    obtain ⟨o,ho⟩:=R.at_ (k:=j) (by omega)
    have go:M (j + 1) = M j→M j = M (j + (n + 1)) ∨ ∃ i o,j ≤ i ∧ i < j + (n + 1) ∧ hops[i]? = some o ∧ EffAct E i o ∧ M j = M i:=fun e=>by
      rcases Rg.first R n (j + 1) (by omega) with h1 | ⟨i,o',h1,h2,h3,h4,h5⟩
      · left;rw [← e,h1];congr 1;omega
      · right;exact ⟨i,o',by omega,by omega,h3,h4,by rw [← e,h5]⟩
    cases R.step j o ho with
    | alloc _ _ h3=>exact go h3
    | off _ _ _ _ h3=>exact go h3
    | look _ _ _ _ _ _ h3=>exact go h3
    | eff _ h1 h2 _ _=>exact .inr ⟨j,o,Nat.le_refl _,by omega,ho,⟨h1,h2⟩,rfl⟩
theorem Rg.last (R:Rg P gt call ops hops N base E M V):∀ (n j:Nat),j + n ≤ hops.length →
    M j = M (j + n) ∨ ∃ i o,j ≤ i ∧ i < j + n ∧ hops[i]? = some o ∧ EffAct E i o ∧ M (i + 1) = M (j + n)
  | 0,_,_=>.inl rfl
  | n + 1,j,h=>by
    obtain ⟨o,ho⟩:=R.at_ (k:=j + n) (by omega)
    have go:M (j + n + 1) = M (j + n)→M j = M (j + (n + 1)) ∨ ∃ i o,j ≤ i ∧ i < j + (n + 1) ∧ hops[i]? = some o ∧ EffAct E i o ∧ M (i + 1) = M (j + (n + 1)):=fun e=>by
      rcases Rg.last R n j (by omega) with h1 | ⟨i,o',h1,h2,h3,h4,h5⟩
      · left;rw [h1,← e];rfl
      · right;exact ⟨i,o',h1,by omega,h3,h4,by rw [h5,← e];rfl⟩
    cases R.step (j + n) o ho with
    | alloc _ _ h3=>exact go h3
    | off _ _ _ _ h3=>exact go h3
    | look _ _ _ _ _ _ h3=>exact go h3
    | eff _ h1 h2 _ _=>exact .inr ⟨j + n,o,by omega,by omega,ho,⟨h1,h2⟩,rfl⟩
theorem Rg.kept (R:Rg P gt call ops hops N base E M V) {d:Nat}:∀ (n k:Nat),k + n ≤ hops.length →
    (∀ (i:Nat) (o:HOper),k ≤ i→i < k + n→hops[i]? = some o→o.dst = some d→o.op.isAlloc = true)→(E (k + n)).get d = (E k).get d
  | 0,_,_,_=>rfl
  | n + 1,k,h,hw=>by
    obtain ⟨o,ho⟩:=R.at_ (k:=k + n) (by omega)
    rw [← Rg.kept R n k (by omega) fun i o h1 h2=>hw i o h1 (by omega)]
    have put:o.op.isAlloc = false→E (k + n + 1) = (E (k + n)).put o.dst (V (k + n))→(E (k + (n + 1))).get d = (E (k + n)).get d:=fun ha e=>by
      show (E (k + n + 1)).get d = _
      rw [e,get_put]
      simp only [upd]
      rw [if_neg fun hd=>by have:=hw (k + n) o (by omega) (by omega) ho hd;rw [ha] at this;cases this]
    cases R.step (k + n) o ho with
    | alloc _ h3 _=>show (E (k + n + 1)).get d = _;rw [h3]
    | off h1 _ _ h3 _=>exact put h1 h3
    | look _ h1 _ _ _ h3 _=>exact put h1 h3
    | eff h1 _ _ _ h3=>exact put h1 h3
def Ready (ops:Array Oper) (S:Nat→Bool) (q:Nat):Prop:=∀ (o:Oper) (e:Edge),ops[q]? = some o→e ∈ o.after.toList→Region.binds .any e = true→S e.on = true
theorem Ready.reach (h:Ready ops S q) (hS:Closed ops S) {i:Nat} (hr:Reach ops q i):S i = true:=by
  cases hr with
  | edge h1 h2 h3=>exact h _ _ h1 h2 h3
  | step h1 h2 h3 h4=>exact hS.reach h4 (h _ _ h1 h2 h3)
theorem ord_iff (hS:Closed ops S) (hr:Ready ops S q) (hq:S q = false) {i:Nat} (ho:ordered (Region.before ops) i q = true) (hne:i ≠ q):S i = true ↔ i < q:=by
  constructor
  · intro h
    rcases Nat.lt_or_ge i q with h1 | h1
    · exact h1
    · have:=hS.reach (ordered_reach (by rw [ordered_comm];exact ho) (by omega)) h
      rw [hq] at this
      cases this
  · intro h
    exact hr.reach hS (ordered_reach ho h)
theorem Rg.here (R:Rg P gt call ops hops N base E M V) (hS:Closed ops S) (hr:Ready ops S q) (hq:S q = false) {o:HOper} (ho:hops[q]? = some o) (ha:o.op.isAlloc = false) {d:Nat} (hd:d ∈ o.names):AtTime hops S d q:=by
  intro i x hx hxd
  by_cases hiq:i = q
  · subst hiq
    rw [ho] at hx
    simp only [Option.some.injEq] at hx
    subst hx
    simp [hq,ha]
  · obtain ⟨h1,h2⟩:=(pair_inv (R.pair i q x o hx ho) hiq).2.1 d hxd hd
    rw [ord_iff hS hr hq h1 hiq]
    exact ⟨.inl,fun h=>h.elim id h2⟩
def also (S:Nat→Bool) (q:Nat):Nat→Bool:=fun i=>i == q || S i
theorem also_self:also S q q = true:=by simp [also]
theorem also_ne {i:Nat} (h:i ≠ q):also S q i = S i:=by simp [also,h]
theorem Rg.envAfter (R:Rg P gt call ops hops N base E M V) (hS:Closed ops S) (hq:S q = false) {o:HOper} (ho:hops[q]? = some o) {a:Act} {u:HV} {v:Value}
    (hN:∀ d,o.dst = some d→d < a.tmps.size) (hu:∀ d,o.dst = some d→if o.op.isAlloc then (E 0).get d = some u else (E (q + 1)).get d = some u)
    (env:EnvAt hops E S L tips w a) (st:Stays L tips w L' tips' w') (hv:VRel L' tips' w' u v):EnvAt hops E (also S q) L' tips' w' (a.put o.dst v):=by
  intro d k x hk ht hx
  by_cases hd:o.dst = some d
  · have hlt:=hN d hd
    refine ⟨v,by simp [Act.put,hd,hlt],?_⟩
    have later:∀ (i:Nat) (y:HOper),hops[i]? = some y→y.dst = some d→i ≠ q→S i = true→¬ (q < i) ∧ o.op.isAlloc = false:=by
      intro i y hy hyd hiq hi
      obtain ⟨h1,h2⟩:=(pair_inv (R.pair q i o y ho hy) (fun e=>hiq e.symm)).2.1 d hd (by simp [HOper.names,hyd])
      have nlt:¬ q < i:=fun hlt=>by
        have:=hS.reach (ordered_reach h1 hlt) hi
        rw [hq] at this
        cases this
      refine ⟨nlt,?_⟩
      cases ha:o.op.isAlloc with
      | false=>rfl
      | true=>exact absurd (h2 ha) nlt
    have key:(E k).get d = some u:=by
      have:=hu d hd
      cases ha:o.op.isAlloc with
      | true=>
        rw [if_pos ha] at this
        rw [← this]
        have:=R.kept (d:=d) k 0 (by omega) fun i y _ h2 hy hyd=>by
          rcases Decidable.em (i = q) with rfl | hiq
          · rw [ho] at hy;cases hy;exact ha
          · have h3:=(ht i y hy hyd).2 (.inl (by omega))
            rw [also_ne hiq] at h3
            have:=(later i y hy hyd hiq h3).2
            rw [ha] at this
            cases this
        simpa using this
      | false=>
        rw [if_neg (by simp [ha])] at this
        rw [← this]
        have hqk:q < k:=by
          rcases (ht q o ho hd).1 also_self with h | h
          · exact h
          · rw [ha] at h;cases h
        have:=R.kept (d:=d) (k - (q + 1)) (q + 1) (by omega) fun i y h1 h2 hy hyd=>by
          have h3:=(ht i y hy hyd).2 (.inl (by omega))
          rw [also_ne (by omega)] at h3
          exact absurd (by omega) (later i y hy hyd (by omega) h3).1
        rw [show q + 1 + (k - (q + 1)) = k by omega] at this
        exact this
    rw [key] at hx
    simp only [Option.some.injEq] at hx
    subst hx
    exact hv
  · have ht':AtTime hops S d k:=by
      intro i y hy hyd
      have hiq:i ≠ q:=fun e=>by subst e;rw [ho] at hy;cases hy;exact hd hyd
      rw [← also_ne (S:=S) (q:=q) hiq]
      exact ht i y hy hyd
    obtain ⟨y,h1,h2⟩:=env d k x hk ht' hx
    refine ⟨y,?_,h2.move st⟩
    cases hod:o.dst with
    | none=>exact h1
    | some d'=>
      have hne:d' ≠ d:=fun e=>hd (by rw [hod,e])
      simp only [Act.put]
      rw [Array.getElem?_setIfInBounds_ne hne]
      exact h1
theorem restrict_mem {e:Env}:∀ {ks:List Nat} {k:Nat},k ∈ ks→(e.restrict ks).get k = e.get k
  | j :: ks,k,h=>by
    simp only [Env.restrict]
    by_cases hjk:j = k
    · subst hjk
      cases hj:e.get j with
      | some v=>simp [Env.get]
      | none=>
        simp only
        cases hr:(e.restrict ks).get j with
        | none=>rfl
        | some u=>rw [restrict_get hr] at hj;cases hj
    · have hk:k ∈ ks:=by
        cases h with
        | head=>exact absurd rfl hjk
        | tail _ h=>exact h
      cases hj:e.get j with
      | some v=>simp only [Env.get];rw [if_neg hjk];exact restrict_mem hk
      | none=>exact restrict_mem hk
theorem restrict_only {e:Env}:∀ {ks:List Nat} {k:Nat} {u:HV},(e.restrict ks).get k = some u→k ∈ ks
  | [],_,_,h=>by simp [Env.restrict,Env.get] at h
  | j :: ks,k,u,h=>by
    simp only [Env.restrict] at h
    split at h
    · simp only [Env.get] at h
      split at h
      · rename_i hj;subst hj;exact List.mem_cons_self
      · exact List.mem_cons_of_mem _ (restrict_only h)
    · exact List.mem_cons_of_mem _ (restrict_only h)
theorem evalO_restrict {e:Env} {ks:List Nat} {x:HO} (h:∀ s ∈ x.slots,s ∈ ks):evalO e x = evalO (e.restrict ks) x:=by
  cases x with
  | slot n=>exact (restrict_mem (h n (by simp [HO.slots]))).symm
  | const v=>rfl
  | gl cs=>rfl
theorem wanted_restrict {e:Env} {ks:List Nat} {g:Option (Nat × Bool)} (h:∀ s b,g = some (s,b)→s ∈ ks):wanted e g = wanted (e.restrict ks) g:=by
  cases g with
  | none=>rfl
  | some p=>
    obtain ⟨s,b⟩:=p
    simp only [wanted]
    rw [restrict_mem (h s b rfl)]
end
end
end Am
namespace Am
open Go
section
variable {P:Program} {gt:Nat→Option (List D)} {L L' L0:Lay} {H H':St} {w w' w0:World} {tips tips' tips0:List Nat} {call:CallT}
variable {ops:Array Oper} {hops:List HOper} {N base:Nat} {E:Nat→Env} {M:Nat→St} {V:Nat→HV} {S:Nat→Bool} {q:Nat}
structure DInv (hops:List HOper) (gt:Nat→Option (List D)) (ops:Array Oper) (N base:Nat) (E:Nat→Env) (M:Nat→St) (L0:Lay) (tips0:List Nat) (w0:World) (S:Nat→Bool) (a:Act) (w:World):Prop where
  closed:Closed ops S
  tm:N ≤ a.tmps.size
  df:a.defers = []
  ex:∃ (j:Nat) (L:Lay),j ≤ hops.length ∧ (∀ (i:Nat) (o:HOper),hops[i]? = some o→EffAct E i o→(S i = true ↔ i < j)) ∧
    Ext base L0 tips0 w0 L (M j).tips w ∧ Sim gt (M j) L w ∧
    (∀ (k:Nat) (o:HOper) (z:List HV),hops[k]? = some o→allocZ o = some z→S k = false→L.φ[base + rank hops k]? = some none ∧ L.pc (base + rank hops k) = z) ∧
    EnvAt hops E S L (M j).tips w a
theorem cOp_alloc {op:Op} {z:List HV} (h:cOp P gt op = some (.alloc z)):∃ t,op = .alloc t ∧ tZero P t = some z:=by
  have mm:∀ {α:Type} {x:Option α} {f:α→HOp},x.map f = some (.alloc z)→(∀ a,f a ≠ .alloc z)→False:=by
    intro α x f h hf
    obtain ⟨a,_,h⟩:=map_mk h
    exact hf a h.symm
  cases op
  case alloc t=>
    obtain ⟨z',h1,h2⟩:=map_mk (show (tZero P t).map HOp.alloc = _ from h)
    cases h2
    exact ⟨t,rfl,h1⟩
  case call c=>
    exfalso
    simp only [cOp] at h
    unfold cCall at h
    (repeat' split at h) <;> first
      | (cases h;done)
      | exact mm h (fun _=>by simp)
      | (simp only [Option.some.injEq,reduceCtorEq] at h;done)
  all_goals
    exfalso
    simp only [cOp] at h
    (repeat' split at h) <;> first
      | contradiction
      | (cases h;done)
      | exact mm h (fun _=>by simp)
      | (simp only [Option.some.injEq,reduceCtorEq] at h;done)
theorem quiet_still {op:HOp} (h:op.quiet = true):op.still = true:=by cases op <;> simp_all [HOp.quiet,HOp.still]
theorem plain_still {op:HOp} (h:op.plain = true):op.still = true:=by cases op <;> simp_all [HOp.plain,HOp.still]
theorem allocZ_some {o:HOper} (h:o.op.isAlloc = true):∃ z,o.op = .alloc z ∧ allocZ o = some z:=by
  unfold allocZ
  cases ho:o.op <;> rw [ho] at h <;> simp_all [HOp.isAlloc]
theorem allocZ_is {o:HOper} {z:List HV} (h:allocZ o = some z):o.op.isAlloc = true:=by
  unfold allocZ at h
  split at h
  · rename_i h';rw [h'];rfl
  · cases h
theorem Rg.names (R:Rg P gt call ops hops N base E M V) (hS:Closed ops S) (hr:Ready ops S q) (hq:S q = false) {o:HOper} (ho:hops[q]? = some o) (ha:o.op.isAlloc = false) {a:Act} (env:EnvAt hops E S L tips w a) :
    EnvRel ((E q).restrict o.names).get L tips w a:=by
  intro d u hd
  have hm:=restrict_only hd
  rw [restrict_mem hm] at hd
  exact env d q u (Nat.le_of_lt (lt_of_getElem? ho)) (R.here hS hr hq ho ha hm) hd
theorem Rg.step_ (R:Rg P gt call ops hops N base E M V) (C:CallsOk P gt call) (K:CallKeeps call) {a:Act} (D:DInv hops gt ops N base E M L0 tips0 w0 S a w) (hr:Ready ops S q) (hq:S q = false) (hlt:q < hops.length)
    {Q:Exit→Act→World→Prop} {Kn:Act→World→Prop} (hk:∀ a' w',DInv hops gt ops N base E M L0 tips0 w0 (also S q) a' w'→Kn a' w'):wpOp P ops Q q Kn a w:=by
  obtain ⟨o,ho⟩:=R.at_ hlt
  obtain ⟨mo,ok⟩:=R.ok q o ho
  obtain ⟨j,L,hj,hjS,ext,Sm,hal,env⟩:=D.ex
  have hS:=D.closed
  have hS':Closed ops (also S q):=by
    intro i x e hi hx he hb
    by_cases hiq:i = q
    · subst hiq
      have:=hr x e hx he hb
      simp [also,this]
    · rw [also_ne hiq] at hi
      have:=hS i x e hi hx he hb
      simp [also,this]
  have hN:∀ d,o.dst = some d→d < a.tmps.size:=fun d hd=>Nat.lt_of_lt_of_le (ok.lt d (by rw [← ok.dst];exact hd)) D.tm
  have hnames:∀ x:HO,(∀ s ∈ x.slots,s ∈ o.op.slots)→evalO (E q) x = evalO ((E q).restrict o.names) x:=fun x hx=>
    evalO_restrict fun s hs=>by simp only [HOper.names,List.mem_append];exact .inr (.inl (hx s hs))
  have stay:(¬ EffAct E q o)→∀ (i:Nat) (x:HOper),hops[i]? = some x→EffAct E i x→(also S q i = true ↔ i < j):=by
    intro hne i x hx hex
    have hiq:i ≠ q:=fun e=>by subst e;rw [ho] at hx;cases hx;exact hne hex
    rw [also_ne hiq]
    exact hjS i x hx hex
  unfold wpOp
  rw [ok.at_]
  simp only
  cases R.step q o ho with
  | alloc ha hE hM=>
    obtain ⟨z,hz,hzz⟩:=allocZ_some ha
    have hg:=R.al q o ho ha
    have hgo:mo.guard = none:=by
      have:=ok.guard
      rw [hg] at this
      unfold guardSlot at this
      split at this
      · assumption
      · split at this
        · rename_i x _;cases hd:x.dst <;> rw [hd] at this <;> cases this
        · cases this
    have hw:Region.wanted mo (yielded ops a.tmps) = true:=by simp [Region.wanted,hgo]
    rw [hw,if_pos rfl]
    left
    have hop:=ok.op
    rw [hz] at hop
    obtain ⟨t,hmo,htz⟩:=cOp_alloc hop
    obtain ⟨hφ,hpc⟩:=hal q o z ho hzz hq
    obtain ⟨ti,zv,hi,hzv,hzr⟩:=zero_rel (P:=P) (L:=L) (tips:=(M j).tips) (w:=w.alloc (.cells #[] 0)) htz
    have hzr':∀ w',VRels L (M j).tips w' z zv.cells.toList:=fun w'=>by
      obtain ⟨i',zv',hi',hzv',hzr'⟩:=zero_rel (P:=P) (L:=L) (tips:=(M j).tips) (w:=w') htz
      rw [hi] at hi';cases hi';rw [hzv] at hzv';cases hzv';exact hzr'
    obtain ⟨L',S1,hφ',hpc',e1,st⟩:=Sm.fillNew (NewBlock.alloc w (.cells zv.cells t)) hφ ⟨zv.cells,t,.of (heap_alloc_new w _),by rw [hpc];exact hzr' _⟩
    have hrun:(execOp a.eval mo).run P w = .ok (.value (.pointer (some ⟨w.heap.size,0,none⟩))) (w.alloc (.cells zv.cells t)):=by
      simp [execOp,hmo,Instr.alloc,run_zeroValue hi hzv,newVar,newRow]
    refine upon_of hrun (.inl rfl) (hk _ _ ?_)
    have hneff:¬ EffAct E q o:=fun h=>by have:=h.2;simp [HOp.eff,ha] at this
    refine ⟨hS',by rw [put_size];exact D.tm,by rw [put_defers'];exact D.df,j,L',hj,stay hneff,ext.trans (e1 base (by omega)),S1,fun k x y hx hy hk'=>?_,?_⟩
    · have hkq:k ≠ q:=fun e=>by subst e;rw [also_self] at hk';cases hk'
      rw [also_ne hkq] at hk'
      obtain ⟨h1,h2⟩:=hal k x y hx hy hk'
      refine ⟨?_,by rw [hpc'];exact h2⟩
      rw [hφ',set_other]
      · exact h1
      · intro e
        exact hkq (rank_inj hx hy ho hzz (by omega))
    · have hdst:=ok.dst
      rw [← hdst]
      refine R.envAfter hS hq ho hN (u:=.ref (base + rank hops q) 0) (fun d hd=>?_) env st (.ref _ _ _ ?_)
      · rw [if_pos ha];exact R.zero q d o ho ha hd
      · rw [hφ']
        rw [List.getElem?_set,if_pos rfl,if_pos (lt_of_getElem? hφ)]
  | off ha hwn hV hE hM=>
    have R1:=R.names hS hr hq ho ha env
    have hgm:∀ s b,o.guard = some (s,b)→s ∈ o.names:=fun s b h=>by simp [HOper.names,h]
    have hw:=wanted_sound (ops:=ops) (e:=(E q).restrict o.names) ok.guard R1 (fun _=>rfl) (by rw [← wanted_restrict hgm];exact hwn)
    rw [hw]
    simp only [Bool.false_eq_true,if_false]
    refine hk _ _ ?_
    have hneff:¬ EffAct E q o:=fun h=>by have:=h.1;rw [hwn] at this;cases this
    refine ⟨hS',by rw [put_size];exact D.tm,by rw [put_defers'];exact D.df,j,L,hj,stay hneff,ext,Sm,fun k x y hx hy hk'=>?_,?_⟩
    · have hkq:k ≠ q:=fun e=>by subst e;rw [also_self] at hk';cases hk'
      rw [also_ne hkq] at hk'
      exact hal k x y hx hy hk'
    · have hdst:=ok.dst
      rw [← hdst]
      refine R.envAfter hS hq ho hN (u:=undefV) (fun d hd=>?_) env ((SameMem.refl w).stays _ _) undef_rel
      rw [if_neg (by simp [ha]),hE,hV,get_put]
      simp [upd,hd]
  | look H1 ha hwn hneff hst hE hM=>
    have R1:=R.names hS hr hq ho ha env
    have hgm:∀ s b,o.guard = some (s,b)→s ∈ o.names:=fun s b h=>by simp [HOper.names,h]
    have hw:=wanted_sound (ops:=ops) (e:=(E q).restrict o.names) ok.guard R1 (fun _=>rfl) (by rw [← wanted_restrict hgm];exact hwn)
    rw [hw,if_pos rfl]
    left
    have hqe:¬ EffAct E q o:=fun h=>by have:=h.2;rw [hneff] at this;cases this
    have now:stepOp call (evalO (E q)) (M j) o.op = some (V q,M j):=by
      by_cases hp:o.op.plain = true
      · exact plain_any hp hst (M j)
      · have hquiet:o.op.quiet = true:=by
          simp only [HOp.eff,Bool.and_eq_false_iff,Bool.not_eq_false'] at hneff
          rcases hneff with (h | h) | h
          · exact absurd h hp
          · exact h
          · rw [ha] at h;cases h
        have hqa:QuietAct E q o:=⟨hwn,by simpa using hp,hquiet⟩
        have fin:∀ H'',stepOp call (evalO (E q)) (M j) o.op = some (V q,H'')→stepOp call (evalO (E q)) (M j) o.op = some (V q,M j):=fun H'' h=>by
          rw [h,still_same (quiet_still hquiet) h]
        rcases Nat.le_total j q with hjq | hjq
        · rcases R.first (q - j) j (by omega) with h1 | ⟨i,x,h1,h2,h3,h4,h5⟩
          · rw [show j + (q - j) = q by omega] at h1
            rw [h1] at fin ⊢
            exact fin _ hst
          · have hiS:S i = false:=by
              have:=(hjS i x h3 h4)
              cases hi:S i with
              | false=>rfl
              | true=>have:=this.1 hi;omega
            have hun:ordered (Region.before ops) i q = false:=by
              cases hor:ordered (Region.before ops) i q with
              | false=>rfl
              | true=>have:=(ord_iff hS hr hq hor (by omega)).2 (by omega);rw [hiS] at this;cases this
            obtain ⟨u1,u2⟩:=(pair_inv (R.pair q i o x ho h3) (by omega)).2.2 hquiet h4.2 (by rw [ordered_comm];exact hun)
            obtain ⟨H'',h6⟩:=R.early i q x o (by omega) h3 ho h4 hqa u1 (fun e=>by rw [e] at u2;cases u2)
            rw [h5] at fin ⊢
            exact fin _ h6
        · rcases R.last (j - q) q (by omega) with h1 | ⟨i,x,h1,h2,h3,h4,h5⟩
          · rw [show q + (j - q) = j by omega] at h1
            rw [← h1] at fin ⊢
            exact fin _ hst
          · rw [show q + (j - q) = j by omega] at h5
            have hiS:S i = true:=(hjS i x h3 h4).2 (by omega)
            have hiq:i ≠ q:=fun e=>by subst e;rw [hq] at hiS;cases hiS
            have hun:ordered (Region.before ops) i q = false:=by
              cases hor:ordered (Region.before ops) i q with
              | false=>rfl
              | true=>have:=(ord_iff hS hr hq hor hiq).1 hiS;omega
            obtain ⟨u1,u2⟩:=(pair_inv (R.pair q i o x ho h3) (fun e=>hiq e.symm)).2.2 hquiet h4.2 (by rw [ordered_comm];exact hun)
            obtain ⟨H'',h6⟩:=R.late q i o x (by omega) ho h3 hqa h4 u2 (fun e=>by rw [e] at u1;cases u1)
            rw [h5] at h6
            exact fin _ h6
    rw [stepOp_congr hnames] at now
    refine op_wp C ok.op Sm (opnds_of Sm.glob R1) now fun v w1 L1 e1 S1 V1=>hk _ _ ?_
    have e1':=e1
    rw [← Sm.nobj] at e1'
    refine ⟨hS',by rw [put_size];exact D.tm,by rw [put_defers'];exact D.df,j,L1,hj,stay hqe,?_,S1,fun k x y hx hy hk'=>?_,?_⟩
    · exact ext.trans (e1.weaken (R.big j hj))
    · have hkq:k ≠ q:=fun e=>by subst e;rw [also_self] at hk';cases hk'
      rw [also_ne hkq] at hk'
      obtain ⟨h1,h2⟩:=hal k x y hx hy hk'
      have hlt':=lt_of_getElem? h1
      exact ⟨by rw [e1'.φ _ hlt'];exact h1,by rw [e1'.pc _ hlt'];exact h2⟩
    · have hdst:=ok.dst
      rw [← hdst]
      refine R.envAfter hS hq ho hN (u:=V q) (fun d hd=>?_) env e1'.stays V1
      rw [if_neg (by simp [ha]),hE,get_put]
      simp [upd,hd]
  | eff ha hwn heff hst hE=>
    have R1:=R.names hS hr hq ho ha env
    have hgm:∀ s b,o.guard = some (s,b)→s ∈ o.names:=fun s b h=>by simp [HOper.names,h]
    have hw:=wanted_sound (ops:=ops) (e:=(E q).restrict o.names) ok.guard R1 (fun _=>rfl) (by rw [← wanted_restrict hgm];exact hwn)
    rw [hw,if_pos rfl]
    left
    have hqe:EffAct E q o:=⟨hwn,heff⟩
    have ord:∀ (i:Nat) (x:HOper),hops[i]? = some x→EffAct E i x→i ≠ q→(S i = true ↔ i < q):=fun i x hx hex hiq=>
      ord_iff hS hr hq ((pair_inv (R.pair i q x o hx ho) hiq).1 hex.2 heff) hiq
    have hMj:M j = M q:=by
      rcases Nat.le_total j q with hjq | hjq
      · rcases R.first (q - j) j (by omega) with h1 | ⟨i,x,h1,h2,h3,h4,_⟩
        · rw [show j + (q - j) = q by omega] at h1;exact h1
        · have:=(hjS i x h3 h4).1 ((ord i x h3 h4 (by omega)).2 (by omega))
          omega
      · rcases R.first (j - q) q (by omega) with h1 | ⟨i,x,h1,h2,h3,h4,_⟩
        · rw [show q + (j - q) = j by omega] at h1;exact h1.symm
        · have hi:=(hjS i x h3 h4).2 (by omega)
          have hiq:i ≠ q:=fun e=>by subst e;rw [hq] at hi;cases hi
          have:=(ord i x h3 h4 hiq).1 hi
          omega
    rw [hMj] at Sm ext
    rw [stepOp_congr hnames] at hst
    have env':=env
    rw [hMj] at env' R1
    refine op_wp C ok.op Sm (opnds_of Sm.glob R1) hst fun v w1 L1 e1 S1 V1=>hk _ _ ?_
    have e1':=e1
    rw [← Sm.nobj] at e1'
    refine ⟨hS',by rw [put_size];exact D.tm,by rw [put_defers'];exact D.df,q + 1,L1,hlt,fun i x hx hex=>?_,?_,S1,fun k x y hx hy hk'=>?_,?_⟩
    · by_cases hiq:i = q
      · subst hiq;simp [also_self]
      · rw [also_ne hiq,ord i x hx hex hiq];omega
    · exact ext.trans (e1.weaken (R.big q (Nat.le_of_lt hlt)))
    · have hkq:k ≠ q:=fun e=>by subst e;rw [also_self] at hk';cases hk'
      rw [also_ne hkq] at hk'
      obtain ⟨h1,h2⟩:=hal k x y hx hy hk'
      have hlt':=lt_of_getElem? h1
      exact ⟨by rw [e1'.φ _ hlt'];exact h1,by rw [e1'.pc _ hlt'];exact h2⟩
    · have hdst:=ok.dst
      rw [← hdst]
      refine R.envAfter hS hq ho hN (u:=V q) (fun d hd=>?_) env' e1'.stays V1
      rw [if_neg (by simp [ha]),hE,get_put]
      simp [upd,hd]
end
end Am
