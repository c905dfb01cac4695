/- A part of the proof of BuildAgain: no condition of its own. Whence: AmCut, AmWp. -/
import Derived.Test.YtgepkelfblhpnaaGreatDoorA09
import Derived.Orders
set_option linter.all false
namespace Am
open Go
section
variable {P:Program} {gt:Nat→Option (List D)} {L L':Lay} {H H':St} {w w':World} {tips tips':List Nat}
mutual
theorem VRel.und {u:HV} {v:Value}:VRel L tips w u v→Und L.φ.length tips.length u
  | .d _ _ _=>by trivial
  | .own _ .exact _ _ _=>by trivial
  | .own _ (.tok t s) _ _ ⟨_,h,_⟩=>show t < tips.length from lt_of_getElem? h
  | .ref o _ _ h=>show o < L.φ.length from lt_of_getElem? h
  | .row o _ _ _ _ _ h _=>show o < L.φ.length from lt_of_getElem? h
  | .map o _ h=>show o < L.φ.length from lt_of_getElem? h
  | .iref _ _ _ _=>by trivial
  | .fn _ _ _ _ _ h h'=>⟨VRels.und h,VRels.und h'⟩
  | .agg _ _ h=>show Unds _ _ _ from VRels.und h
  | .tup _ _ h=>show Unds _ _ _ from VRels.und h
theorem VRels.und {us:List HV} {vs:List Value}:VRels L tips w us vs→Unds L.φ.length tips.length us
  | .nil=>by trivial
  | .cons _ _ _ _ h h'=>⟨VRel.und h,VRels.und h'⟩
end
def Lay.cut (L:Lay) (no nt:Nat):Lay:={ L with φ:=L.φ.take no,τ:=L.τ.take nt }
theorem take_get {α:Type} {l:List α} {n k:Nat} (h:k < n):(l.take n)[k]? = l[k]?:=by rw [List.getElem?_take,if_pos h]
theorem take_get_inv {α:Type} {l:List α} {n k:Nat} {x:α} (h:(l.take n)[k]? = some x):k < n ∧ l[k]? = some x:=by
  rw [List.getElem?_take] at h
  split at h
  · rename_i hk;exact ⟨hk,h⟩
  · cases h
mutual
theorem VRel.cut {no nt:Nat} {u:HV} {v:Value}:VRel L tips w u v→Und no nt u→VRel (L.cut no nt) (tips.take nt) w u v
  | .d x v h,_=>.d x v h
  | .own rows .exact v h h',_=>.own rows .exact v h h'
  | .own rows (.tok t s) v h ⟨k,h1,h2,h3⟩,hu=>by
    have hlt:t < nt:=hu
    refine .own rows (.tok t s) v h ⟨k,by rw [take_get hlt];exact h1,h2,fun e=>?_⟩
    obtain ⟨x,hx,hm⟩:=h3 e
    exact ⟨x,by simp only [Lay.cut];rw [take_get hlt];exact hx,hm⟩
  | .ref o off b h,hu=>.ref o off b (by simp only [Lay.cut];rw [take_get (show o < no from hu)];exact h)
  | .row o off len sz b cap h h',hu=>.row o off len sz b cap (by simp only [Lay.cut];rw [take_get (show o < no from hu)];exact h) h'
  | .map o b h,hu=>.map o b (by simp only [Lay.cut];rw [take_get (show o < no from hu)];exact h)
  | .iref cells b off h,_=>.iref cells b off h
  | .fn f a b x y h h',hu=>.fn f a b x y (VRels.cut h hu.1) (VRels.cut h' hu.2)
  | .agg cs vs h,hu=>.agg cs vs (VRels.cut h hu)
  | .tup cs vs h,hu=>.tup cs vs (VRels.cut h hu)
theorem VRels.cut {no nt:Nat} {us:List HV} {vs:List Value}:VRels L tips w us vs→Unds no nt us→VRels (L.cut no nt) (tips.take nt) w us vs
  | .nil,_=>.nil
  | .cons c v cs vs h h',hu=>.cons c v cs vs (VRel.cut h hu.1) (VRels.cut h' hu.2)
end
theorem Sim.unds (S:Sim gt H L w) {o:Nat} {c:List HV} (h:H.objs[o]? = some (.cells c)):Unds H.objs.length H.tips.length c:=by
  have hlt:o < L.φ.length:=by rw [S.nobj];exact lt_of_getElem? h
  cases hφ:L.φ[o] with
  | none=>
    obtain ⟨h1,h2⟩:=S.pend o (by rw [List.getElem?_eq_getElem hlt,hφ])
    rw [h] at h1
    simp only [Option.some.injEq,Obj.cells.injEq] at h1
    subst h1
    exact unds_iff.2 fun v hv=>und_tight (h2 v hv)
  | some b=>
    obtain ⟨vs,elem,_,hr⟩:=S.obj o b _ h (by rw [List.getElem?_eq_getElem hlt,hφ])
    have:=hr.und
    rw [S.nobj] at this
    exact this
theorem Sim.clean (S:Sim gt H L w):Clean H.objs.length H.tips.length H:=fun _ _ _ _ h=>S.unds h
structure TipCut (L:Lay) (tips:List Nat) (nt:Nat) (τ':List (Option (Nat × Nat × Nat))) (tips':List Nat):Prop where
  len:τ'.length = tips'.length
  low:∀ t,t < nt→t < tips.length→tips'[t]? = tips[t]? ∧ τ'[t]? = L.τ[t]?
  from_:∀ (t n:Nat) (x:Option (Nat × Nat × Nat)),tips'[t]? = some n→τ'[t]? = some x→∃ t',tips[t']? = some n ∧ L.τ[t']? = some x ∧ (t' < nt→t' = t)
  inj:∀ (i j b s c s' c':Nat),τ'[i]? = some (some (b,s,c))→τ'[j]? = some (some (b,s',c'))→i = j
theorem TipCut.stays {no nt:Nat} {τ':List (Option (Nat × Nat × Nat))} {tips':List Nat} (T:TipCut L tips nt τ' tips') :
    Stays (L.cut no nt) (tips.take nt) w { L with φ:=L.φ.take no,τ:=τ' } tips' w:=by
  refine ⟨.refl _ _,fun o b h=>h,fun t k h2=>?_,rfl⟩
  obtain ⟨hlt,h3⟩:=take_get_inv h2
  obtain ⟨h4,h5⟩:=T.low t hlt (lt_of_getElem? h3)
  exact ⟨k,by rw [h4];exact h3,Nat.le_refl _,fun _=>by simp only [Lay.cut];rw [h5,take_get hlt]⟩
theorem Sim.cutAt (S:Sim gt H L w) {no nt:Nat} {τ':List (Option (Nat × Nat × Nat))} {tips':List Nat} (hno:no ≤ H.objs.length) (T:TipCut L H.tips nt τ' tips') (low:Option Nat)
    (hu:∀ (o:Nat) (c:List HV),o < no→H.objs[o]? = some (.cells c)→Unds no nt c) :
    Sim gt { objs:=H.objs.take no,tips:=tips',low } { L with φ:=L.φ.take no,τ:=τ' } w:=by
  have mv:∀ {us:List HV} {vs:List Value},VRels L H.tips w us vs→Unds no nt us→VRels { L with φ:=L.φ.take no,τ:=τ' } tips' w us vs:=by
    intro us vs h hun
    exact (VRels.cut h hun).move T.stays
  exact {
    glob:=S.glob
    nobj:=by simp [S.nobj]
    ntip:=T.len
    obj:=fun o b x h1 h2=>by
      obtain ⟨hlt,h3⟩:=take_get_inv h1
      obtain ⟨_,h4⟩:=take_get_inv h2
      have:=S.obj o b x h3 h4
      cases x with
      | cells c=>obtain ⟨vs,elem,h5,h6⟩:=this;exact ⟨vs,elem,h5,mv h6 (hu o c hlt h3)⟩
      | map ka va es st=>exact this
      | iter s p=>exact this
      | dead=>trivial
    pend:=fun o h2=>by
      obtain ⟨h3,h4⟩:=take_get_inv h2
      rw [take_get h3]
      exact S.pend o h4
    tip:=fun t n b sz cap h1 h2=>by
      obtain ⟨t',h3,h4,_⟩:=T.from_ t n _ h1 h2
      exact S.tip t' n b sz cap h3 h4
    tip0:=fun t n h1 h2=>by
      obtain ⟨t',h3,h4,_⟩:=T.from_ t n _ h1 h2
      exact S.tip0 t' n h3 h4
    inj:=fun i j b h1 h2=>S.inj i j b (take_get_inv h1).2 (take_get_inv h2).2
    tinj:=T.inj
    disj:=fun i j b s c h1 h2=>by
      have hlt:j < tips'.length:=by rw [← T.len];exact lt_of_getElem? h2
      obtain ⟨t',h3,h4,_⟩:=T.from_ j _ _ (List.getElem?_eq_getElem hlt) h2
      exact S.disj i t' b s c (take_get_inv h1).2 h4
    objI:=fun o b h=>S.objI o b (take_get_inv h).2
    fresh:=S.fresh
    young:=fun c hc=>by
      rcases hc with ⟨o,h⟩ | ⟨t,s,c',h⟩
      · exact S.young c (.inl ⟨o,(take_get_inv h).2⟩)
      · have hlt:t < tips'.length:=by rw [← T.len];exact lt_of_getElem? h
        obtain ⟨t',_,h4,_⟩:=T.from_ t _ _ (List.getElem?_eq_getElem hlt) h
        exact S.young c (.inr ⟨t',s,c',h4⟩)
    baseLe:=S.baseLe }
theorem TipCut.take (S:Sim gt H L w) (nt:Nat):TipCut L H.tips nt (L.τ.take nt) (H.tips.take nt) where
  len:=by simp [S.ntip]
  low:=fun t h1 _=>⟨take_get h1,take_get h1⟩
  from_:=fun t n x h1 h2=>⟨t,(take_get_inv h1).2,(take_get_inv h2).2,fun _=>rfl⟩
  inj:=fun i j b s c s' c' h1 h2=>S.tinj i j b s c s' c' (take_get_inv h1).2 (take_get_inv h2).2
theorem TipCut.all (S:Sim gt H L w) (nt:Nat):TipCut L H.tips nt L.τ H.tips where
  len:=S.ntip
  low:=fun t _ _=>⟨rfl,rfl⟩
  from_:=fun t _ _ h1 h2=>⟨t,h1,h2,fun _=>rfl⟩
  inj:=S.tinj
theorem TipCut.keep (S:Sim gt H L w) {nt t n:Nat} (hnt:nt ≤ H.tips.length) (h:nt ≤ t) (hn:H.tips[t]? = some n) {x:Option (Nat × Nat × Nat)} (hx:L.τ[t]? = some x) :
    TipCut L H.tips nt (L.τ.take nt ++ [x]) (H.tips.take nt ++ [n]):=by
  have l1:(L.τ.take nt).length = nt:=by simp [S.ntip,hnt]
  have l2:(H.tips.take nt).length = nt:=by simp [hnt]
  have at1:∀ (i:Nat) (y:Option (Nat × Nat × Nat)),(L.τ.take nt ++ [x])[i]? = some y→(i < nt ∧ L.τ[i]? = some y) ∨ (i = nt ∧ y = x):=by
    intro i y hy
    rcases getElem?_snoc hy with h | ⟨h1,h2⟩
    · exact .inl (take_get_inv h)
    · exact .inr ⟨by rw [h1,l1],h2⟩
  have at2:∀ (i y:Nat),(H.tips.take nt ++ [n])[i]? = some y→(i < nt ∧ H.tips[i]? = some y) ∨ (i = nt ∧ y = n):=by
    intro i y hy
    rcases getElem?_snoc hy with h | ⟨h1,h2⟩
    · exact .inl (take_get_inv h)
    · exact .inr ⟨by rw [h1,l2],h2⟩
  exact {
    len:=by simp [S.ntip]
    low:=fun i h1 _=>⟨by rw [List.getElem?_append_left (by rw [l2];exact h1),take_get h1],by rw [List.getElem?_append_left (by rw [l1];exact h1),take_get h1]⟩
    from_:=fun i m y h1 h2=>by
      rcases at1 i y h2 with ⟨h3,h4⟩ | ⟨h3,rfl⟩ <;> rcases at2 i m h1 with ⟨h5,h6⟩ | ⟨h5,rfl⟩
      · exact ⟨i,h6,h4,fun _=>rfl⟩
      · omega
      · omega
      · exact ⟨t,hn,hx,fun h7=>by omega⟩
    inj:=fun i j b s c s' c' h1 h2=>by
      rcases at1 i _ h1 with ⟨h3,h4⟩ | ⟨h3,h4⟩ <;> rcases at1 j _ h2 with ⟨h5,h6⟩ | ⟨h5,h6⟩
      · exact S.tinj i j b s c s' c' h4 h6
      · have:=S.tinj i t b s c s' c' h4 (by rw [hx,h6]);omega
      · have:=S.tinj j t b s' c' s c h6 (by rw [hx,h4]);omega
      · omega }
theorem Ext.cutAt {n no nt:Nat} {τ':List (Option (Nat × Nat × Nat))} {tips' tips'':List Nat} (e:Ext n L tips w L' tips' w') (hn:n ≤ no) (hnt:tips.length ≤ nt) (T:TipCut L' tips' nt τ' tips'') :
    Ext n L tips w { L' with φ:=L'.φ.take no,τ:=τ' } tips'' w' where
  grow:=e.grow
  φ:=fun o ho=>by simp only;rw [take_get (by omega)];exact e.φ o ho
  tips:=fun t k h=>by
    obtain ⟨k',h1,h2,h3⟩:=e.tips t k h
    have:=lt_of_getElem? h
    obtain ⟨h4,h5⟩:=T.low t (by omega) (lt_of_getElem? h1)
    exact ⟨k',by rw [h4];exact h1,h2,fun e=>by simp only;rw [h5];exact h3 e⟩
  size:=e.size
  tape:=e.tape
  os:=e.os
  output:=e.output
  drawn:=e.drawn
  old:=e.old
  base:=e.base
  pc:=e.pc
theorem VRel.cutAt {no nt:Nat} {τ':List (Option (Nat × Nat × Nat))} {tips':List Nat} (T:TipCut L tips nt τ' tips') {u:HV} {v:Value} (h:VRel L tips w u v) (hu:Und no nt u) :
    VRel { L with φ:=L.φ.take no,τ:=τ' } tips' w u v:=by
  exact (VRel.cut h hu).move T.stays
end
end Am
namespace Am
open Go
section
variable {P:Program} {gt:Nat→Option (List D)} {L L':Lay} {H H':St} {w w':World} {tips tips':List Nat} {call:CallT}
def EnvRel (f:Nat→Option HV) (L:Lay) (tips:List Nat) (w:World) (a:Act):Prop:=
  ∀ (k:Nat) (u:HV),f k = some u→∃ v,a.tmps[k]? = some v ∧ VRel L tips w u v
theorem EnvRel.move {f:Nat→Option HV} {a:Act} (s:Stays L tips w L' tips' w') (h:EnvRel f L tips w a):EnvRel f L' tips' w' a:=
  fun k u hk=>let ⟨v,h1,h2⟩:=h k u hk;⟨v,h1,h2.move s⟩
theorem EnvRel.mono {f g:Nat→Option HV} {a:Act} (h:EnvRel f L tips w a) (hg:∀ k u,g k = some u→f k = some u):EnvRel g L tips w a:=
  fun k u hk=>h k u (hg k u hk)
def upd (f:Nat→Option HV) (dst:Option Nat) (u:HV):Nat→Option HV:=
  fun k=>if dst = some k then some u else f k
theorem get_put (e:Env) (dst:Option Nat) (u:HV):(e.put dst u).get = upd e.get dst u:=by
  funext k
  cases dst with
  | none=>simp [Env.put,upd]
  | some d=>simp [Env.put,upd,Env.get]
theorem restrict_get {e:Env}:∀ {ks:List Nat} {k:Nat} {u:HV},(e.restrict ks).get k = some u→e.get k = some u
  | [],k,u,h=>by simp [Env.restrict,Env.get] at h
  | j :: ks,k,u,h=>by
    simp only [Env.restrict] at h
    split at h
    · rename_i v hv
      simp only [Env.get] at h
      split at h
      · rename_i hj;subst hj;rw [hv];exact h
      · exact restrict_get h
    · exact restrict_get h
theorem EnvRel.put {f:Nat→Option HV} {a:Act} {u:HV} {v:Value} (h:EnvRel f L tips w a) (hv:VRel L tips w u v) {dst:Option Nat} (hd:∀ d,dst = some d→d < a.tmps.size):EnvRel (upd f dst u) L tips w (a.put dst v):=by
  intro k x hk
  cases dst with
  | none=>simp only [upd,reduceCtorEq,if_false] at hk;exact h k x hk
  | some d=>
    simp only [upd] at hk
    have hlt:=hd d rfl
    split at hk
    · rename_i hdk
      simp only [Option.some.injEq] at hdk hk
      subst hdk
      subst hk
      exact ⟨v,by simp [Act.put,hlt],hv⟩
    · rename_i hdk
      have hne:d ≠ k:=fun e=>hdk (by rw [e])
      obtain ⟨y,h1,h2⟩:=h k x hk
      exact ⟨y,by simp only [Act.put];rw [Array.getElem?_setIfInBounds_ne hne];exact h1,h2⟩
def CallsOk (P:Program) (gt:Nat→Option (List D)) (call:CallT):Prop:=
  ∀ (f:FuncId) (args:List HV) (H:St) (r:HV) (H':St),call f args H = some (r,H') →
    (∃ fn,P.funcs[f]? = some fn ∧ fn.body.isSome = true ∧ fn.name ≠ "runtime.NumGoroutine") ∧
    ∀ (L:Lay) (w:World) (vs:List Value),Sim gt H L w→VRels L H.tips w args vs →
      Calls P f vs.toArray w fun e w'=>∃ v L',e = .returned v ∧ Ext H.objs.length L H.tips w L' H'.tips w' ∧ Sim gt H' L' w' ∧ VRel L' H'.tips w' r v
theorem upon_of {o:Oper} {a:Act} {K:Act→World→Prop} {Q:Exit→Act→World→Prop} {r:Next} {v:Value} (hr:(execOp a.eval o).run P w = .ok r w') (hv:r = .value v ∨ (r = .skip ∧ v = undef)) (hk:K (a.put o.dst v) w'):o.wp P a w K Q:=by
  unfold Oper.wp
  rw [hr]
  rcases hv with rfl | ⟨rfl,rfl⟩
  · exact hk
  · exact hk
theorem Good.wp {o:Oper} {a:Act} {u:HV} (g:Good P gt a.eval o H L w u H') (S:Sim gt H L w) {K:Act→World→Prop} {Q:Exit→Act→World→Prop}
    (hk:∀ v w' L',Ext H.objs.length L H.tips w L' H'.tips w'→Sim gt H' L' w'→VRel L' H'.tips w' u v→K (a.put o.dst v) w'):o.wp P a w K Q:=by
  obtain ⟨r,v,w',L',hr,hv,e,S',V⟩:=g
  rw [S.nobj] at e
  exact upon_of hr hv (hk v w' L' e S' V)
theorem cOp_call {op:Op} {hop:HOp} (h:cOp P gt op = some hop) (hc:hop.isCall = true):∃ c x as,op = .call c ∧ c.callee = .value x ∧ c.args.toList.mapM (cO gt) = some as ∧
    ((∃ f,x = .func f ∧ hop = .callF f as) ∨ ∃ y,cO gt x = some y ∧ hop = .callV y as):=by
  have mm:∀ {α:Type} {x:Option α} {f:α→HOp},x.map f = some hop→(∀ a,(f a).isCall = false)→False:=by
    intro α x f h hf
    obtain ⟨a,_,h⟩:=map_mk h
    rw [h,hf a] at hc
    cases hc
  cases op
  case call c=>
    simp only [cOp] at h
    cases hcal:c.callee with
    | invoke r n=>simp [cCall,hcal] at h
    | builtin b=>
      exfalso
      unfold cCall at h
      rw [hcal] at h
      simp only at h
      (repeat' split at h) <;> first
        | (cases h;done)
        | exact mm h (fun _=>rfl)
        | (simp only [Option.some.injEq] at h;subst h;cases hc;done)
    | value x=>
      unfold cCall at h
      rw [hcal] at h
      cases x with
      | func f=>
        simp only at h
        split at h
        · rename_i as has
          simp only [Option.some.injEq] at h
          exact ⟨c,.func f,as,rfl,hcal,has,.inl ⟨f,rfl,h.symm⟩⟩
        · cases h
      | _=>
        simp only at h
        split at h
        · rename_i y as hy has
          simp only [Option.some.injEq] at h
          exact ⟨c,_,as,rfl,hcal,has,.inr ⟨y,hy,h.symm⟩⟩
        · cases h
  all_goals
    exfalso
    simp only [cOp] at h
    (repeat' split at h) <;> first
      | contradiction
      | (cases h;done)
      | exact mm h (fun _=>rfl)
      | (simp only [Option.some.injEq] at h;subst h;cases hc;done)
theorem run_callFunc {f:FuncId} {fn:Func} (hf:P.funcs[f]? = some fn) (hb:fn.body.isSome = true) (hn:fn.name ≠ "runtime.NumGoroutine") (args:Array Value) (w:World):(callFunc f args).run P w = .ok (.enter f args) w:=by
  have hb':fn.body ≠ none:=by intro h;rw [h] at hb;cases hb
  simp [callFunc,hf,hn,hb']
theorem op_wp (C:CallsOk P gt call) {o:Oper} {a:Act} {ρ:HO→Option HV} {hop:HOp} {u:HV} (hc:cOp P gt o.op = some hop) (S:Sim gt H L w) (R:Opnds gt L H.tips w a.eval ρ)
    (h:stepOp call ρ H hop = some (u,H')) {K:Act→World→Prop} {Q:Exit→Act→World→Prop}
    (hk:∀ v w' L',Ext H.objs.length L H.tips w L' H'.tips w'→Sim gt H' L' w'→VRel L' H'.tips w' u v→K (a.put o.dst v) w'):o.wp P a w K Q:=by
  cases hcall:hop.isCall with
  | false=>exact (good_op S R h hc hcall).wp S hk
  | true=>
    obtain ⟨c,x,as,ho,hcal,has,hcase⟩:=cOp_call hc hcall
    have fin:∀ (f:FuncId) (us:List HV) (vs:List Value),call f us H = some (u,H')→VRels L H.tips w us vs →
        ((∀ fn,P.funcs[f]? = some fn→fn.body.isSome = true→fn.name ≠ "runtime.NumGoroutine"→(execOp a.eval o).run P w = .ok (.enter f vs.toArray) w))→o.wp P a w K Q:=by
      intro f us vs hcl hv hrun
      obtain ⟨⟨fn,h1,h2,h3⟩,hcalls⟩:=C f us H u H' hcl
      unfold Oper.wp
      rw [hrun fn h1 h2 h3]
      simp only [Oper.upon]
      refine (hcalls L w vs S hv).mono fun e w' he=>?_
      obtain ⟨v,L',rfl,e1,e2,e3⟩:=he
      exact hk v w' L' e1 e2 e3
    rcases hcase with ⟨f,rfl,rfl⟩ | ⟨y,hy,rfl⟩
    · simp only [stepOp] at h
      split at h
      · rename_i us hus
        refine fin f us (c.args.toList.map a.eval) h (opnds_list R _ _ _ has hus) fun fn h1 h2 h3=>?_
        have hf:a.eval (.func f) = .func (.func f) #[] #[]:=rfl
        have:=run_callFunc h1 h2 h3 (c.args.map a.eval) w
        have e1:(c.args.toList.map a.eval).toArray = c.args.map a.eval:=by apply Array.ext';simp
        simp [execOp,ho,resolve,hcal,hf,Deferred.ofValue,invoke,e1,this]
      · cases h
    · simp only [stepOp] at h
      split at h
      · rename_i f first captured us hx hus
        have hv:=R x y _ hy hx
        have hargs:=opnds_list R _ _ _ has hus
        generalize hη:a.eval x = vx at hv
        cases hv with
        | fn _ _ _ X Y h1' h2'=>
          refine fin f (first ++ us ++ captured) (X ++ c.args.toList.map a.eval ++ Y) h ((h1'.append hargs).append h2') fun fn h1 h2 h3=>?_
          have:=run_callFunc h1 h2 h3 (X ++ c.args.toList.map a.eval ++ Y).toArray w
          have e1:X.toArray ++ c.args.map a.eval ++ Y.toArray = (X ++ c.args.toList.map a.eval ++ Y).toArray:=by apply Array.ext';simp
          simp only [execOp,ho,resolve,hcal,hη,Deferred.ofValue,invoke,Sem.run_bind,Sem.run_pure,Result.andThen_ok]
          rw [e1]
          exact this
      · cases h
structure OpOk (P:Program) (gt:Nat→Option (List D)) (ops:Array Oper) (N k:Nat) (ho:HOper) (o:Oper):Prop where
  at_:ops[k]? = some o
  dst:ho.dst = o.dst
  lt:∀ d,o.dst = some d→d < N
  op:cOp P gt o.op = some ho.op
  guard:guardSlot ops o.guard = some ho.guard
theorem wanted_sound {f:Nat→Option HV} {a:Act} {ops:Array Oper} {o:Oper} {g:Option (Nat × Bool)} {e:Env} (hg:guardSlot ops o.guard = some g) (R:EnvRel f L tips w a) (hf:∀ s,e.get s = f s) {b:Bool} (h:wanted e g = some b) :
    Region.wanted o (yielded ops a.tmps) = b:=by
  unfold Region.wanted
  unfold guardSlot at hg
  split at hg
  · rename_i hn
    simp only [Option.some.injEq] at hg
    subst hg
    simp only [wanted,Option.some.injEq] at h
    rw [hn]
    exact h
  · rename_i j bb hn
    rw [hn]
    split at hg
    · rename_i oj hoj
      cases hd:oj.dst with
      | none=>rw [hd] at hg;cases hg
      | some d=>
        rw [hd] at hg
        simp only [Option.map_some,Option.some.injEq] at hg
        subst hg
        simp only [wanted] at h
        rw [hf] at h
        simp only [yielded,hoj,Option.bind_some,hd]
        split at h
        · rename_i c hc
          simp only [Option.some.injEq] at h
          obtain ⟨v,h1,h2⟩:=R d _ hc
          have:=h2.bool_inv
          subst this
          rw [h1]
          simp only
          rw [← h]
          cases c <;> cases bb <;> rfl
        · rename_i hc
          simp only [Option.some.injEq] at h
          obtain ⟨v,h1,h2⟩:=R d _ hc
          generalize hvv:v = v' at h2
          cases h2 with
          | tup _ _ h3=>
            cases h3
            rw [h1,hvv]
            subst h
            rfl
        · cases h
    · cases hg
def Post (gt:Nat→Option (List D)) (N:Nat) (H:St) (L:Lay) (w:World) (ex:Exit) (f:Nat→Option HV) (H':St):Exit→Act→World→Prop:=
  fun e a' w'=>e = ex ∧ N ≤ a'.tmps.size ∧ a'.defers = [] ∧ ∃ L',Ext H.objs.length L H.tips w L' H'.tips w' ∧ Sim gt H' L' w' ∧ EnvRel f L' H'.tips w' a'
theorem put_size (a:Act) (d:Option Tmp) (v:Value):(a.put d v).tmps.size = a.tmps.size:=by cases d <;> simp [Act.put]
theorem put_defers' (a:Act) (d:Option Tmp) (v:Value):(a.put d v).defers = a.defers:=by cases d <;> rfl
theorem ext_then {n:Nat} {L'':Lay} {tips'':List Nat} {w'':World} {m:Nat} (e:Ext n L tips w L' tips' w') (e':Ext m L' tips' w' L'' tips'' w'') (h:n ≤ m):Ext n L tips w L'' tips'' w'':=
  e.trans (e'.weaken h)
theorem runOps_wp (C:CallsOk P gt call) (CK:CallKeeps call) {ops:Array Oper} {N:Nat} {Q:Exit→Act→World→Prop}:∀ (hops:List HOper) (i m:Nat) (e e':Env) (H H':St) (L:Lay) (w:World) (a:Act),
    (∀ k ho,hops[k]? = some ho→∃ o,OpOk P gt ops N (i + k) ho o)→hops.length = m→Sim gt H L w→EnvRel e.get L H.tips w a→N ≤ a.tmps.size→a.defers = [] →
    runOps call hops e H = some (e',H') →
    (∀ a' w',Post gt N H L w .normal e'.get H' .normal a' w'→Q .normal a' w')→wpOps P ops Q (List.range' i m) a w
  | [],i,m,e,e',H,H',L,w,a,hok,hl,S,R,hN,hd,h,hQ=>by
    simp only [List.length_nil] at hl
    subst hl
    simp only [runOps,Option.some.injEq,Prod.mk.injEq] at h
    obtain ⟨rfl,rfl⟩:=h
    exact hQ a w ⟨rfl,hN,hd,L,.refl _ _ _ _,S,R⟩
  | ho :: hops,i,m,e,e',H,H',L,w,a,hok,hl,S,R,hN,hd,h,hQ=>by
    cases m with
    | zero=>simp at hl
    | succ m=>
      obtain ⟨o,ok⟩:=hok 0 ho rfl
      simp only [Nat.add_zero] at ok
      rw [List.range'_succ]
      simp only [runOps] at h
      cases hst:stepOper call e H ho with
      | none=>rw [hst] at h;cases h
      | some r=>
        obtain ⟨e1,H1⟩:=r
        rw [hst] at h
        simp only at h
        have ih:=fun (L1:Lay) (w1:World) (a1:Act)=>runOps_wp C CK (ops:=ops) (N:=N) (Q:=Q) hops (i + 1) m e1 e' H1 H' L1 w1 a1 (fun k ho hk=>by
          have:=hok (k + 1) ho (by simpa using hk)
          rwa [show i + 1 + k = i + (k + 1) by omega]) (by simpa using hl)
        have K1:=oper_keeps CK hst
        simp only [wpOps,ok.at_]
        unfold stepOper at hst
        have hdl:∀ d,o.dst = some d→d < a.tmps.size:=fun d hd=>Nat.lt_of_lt_of_le (ok.lt d hd) hN
        split at hst
        · rename_i hw
          rw [wanted_sound ok.guard R (fun _=>rfl) hw]
          rw [if_pos rfl]
          left
          cases hop:stepOp call (evalO e) H ho.op with
          | none=>rw [hop] at hst;cases hst
          | some r=>
            obtain ⟨v,H2⟩:=r
            rw [hop] at hst
            simp only [Option.some.injEq,Prod.mk.injEq] at hst
            obtain ⟨rfl,rfl⟩:=hst
            refine op_wp C ok.op S (opnds_of S.glob R) hop fun v' w' L' e1 S1 V1=>?_
            have R1:EnvRel (e.put ho.dst v).get L' H2.tips w' (a.put o.dst v'):=by
              rw [get_put,ok.dst]
              have e1':=e1
              rw [← S.nobj] at e1'
              exact (R.move e1'.stays).put V1 hdl
            refine ih L' w' _ S1 R1 (by rw [put_size];exact hN) (by rw [put_defers'];exact hd) h fun a' w'' hp=>hQ a' w'' ?_
            obtain ⟨p1,p2,p3,L2,p4,p5,p6⟩:=hp
            exact ⟨p1,p2,p3,L2,ext_then e1 p4 K1.objs,p5,p6⟩
        · rename_i hw
          rw [wanted_sound ok.guard R (fun _=>rfl) hw]
          simp only [Option.some.injEq,Prod.mk.injEq] at hst
          obtain ⟨rfl,rfl⟩:=hst
          simp only [Bool.false_eq_true,if_false]
          have R1:EnvRel (e.put ho.dst undefV).get L H.tips w (a.put o.dst undef):=by
            rw [get_put,ok.dst]
            exact R.put undef_rel hdl
          exact ih L w _ S R1 (by rw [put_size];exact hN) (by rw [put_defers'];exact hd) h hQ
        · cases hst
end
end Am
