/- A part of the proof of BuildAgain: no condition of its own. Whence: AmW. -/
import Derived.Test.YtgepkelfblhpnaaGreatDoorA01
import Derived.Attr
set_option linter.all false
namespace Am
open Go
def Ev (P:Nat→Prop):Prop:=∃ n,∀ m,n ≤ m→P m
theorem Ev.always {P:Nat→Prop} (h:∀ m,P m):Ev P:=⟨0,fun m _=>h m⟩
theorem Ev.and {P Q:Nat→Prop} (h:Ev P) (h':Ev Q):Ev fun m=>P m ∧ Q m:=by
  obtain ⟨a,ha⟩:=h
  obtain ⟨b,hb⟩:=h'
  exact ⟨max a b,fun m hm=>⟨ha m (by omega),hb m (by omega)⟩⟩
theorem Ev.mono {P Q:Nat→Prop} (h:Ev P) (hpq:∀ m,P m→Q m):Ev Q:=let ⟨a,ha⟩:=h;⟨a,fun m hm=>hpq m (ha m hm)⟩
theorem Ev.succ {P:Nat→Prop} (h:Ev fun m=>P (m + 1)):Ev P:=by
  obtain ⟨a,ha⟩:=h
  refine ⟨a + 1,fun m hm=>?_⟩
  have:P (m - 1 + 1):=ha (m - 1) (by omega)
  rwa [show m - 1 + 1 = m by omega] at this
theorem Ev.both {α:Type} {f:Nat→Option α} {x y:α} (h:Ev fun m=>f m = some x) (h':Ev fun m=>f m = some y):x = y:=by
  obtain ⟨n,hn⟩:=h.and h'
  obtain ⟨h1,h2⟩:=hn n (Nat.le_refl _)
  rw [h1] at h2
  exact Option.some.inj h2
def CallsA (p:HProg) (f:FuncId) (args:List HV) (H:St) (r:HV) (H':St):Prop:=Ev fun m=>callN p m f args H = some (r,H')
def WCall (p:HProg) (f:FuncId) (args:List HV) (H:St) (K:HV→St→Prop):Prop:=∃ r H',CallsA p f args H r H' ∧ K r H'
theorem WCall_of {p:HProg} {f:FuncId} {args:List HV} {H H':St} {r:HV} (h:CallsA p f args H r H') (K:HV→St→Prop):WCall p f args H K = K r H':=by
  apply propext
  constructor
  · rintro ⟨r1,H1,h1,h2⟩
    have:=Ev.both h h1
    simp only [Prod.mk.injEq] at this
    rw [this.1,this.2]
    exact h2
  · exact fun hk=>⟨r,H',h,hk⟩
def WX {α:Type} (x:Option α) (K:α→Prop):Prop:=∃ a,x = some a ∧ K a
theorem WX_some {α:Type} (a:α) (K:α→Prop):WX (some a) K = K a:=by simp [WX]
theorem WX_none {α:Type} (K:α→Prop):WX none K = False:=by simp [WX]
theorem WX_if {α:Type} {c:Prop} [Decidable c] (x:Option α) (K:α→Prop):WX (if c then x else none) K = (c ∧ WX x K):=by
  by_cases h:c <;> simp [h,WX]
theorem WX_map {α β:Type} (x:Option α) (f:α→β) (K:β→Prop):WX (x.map f) K = WX x fun a=>K (f a):=by
  cases x <;> simp [WX]
theorem WX_congr {α:Type} {x y:Option α} (h:x = y) (K:α→Prop):WX x K = WX y K:=by rw [h]
def WIf (t:Bool) (A B:Prop):Prop:=if t then A else B
theorem WIf_true (A B:Prop):WIf true A B = A:=(rfl)
theorem WIf_false (A B:Prop):WIf false A B = B:=(rfl)
theorem WIf_intro {t:Bool} {A B:Prop} (h:t = true→A) (h':t = false→B):WIf t A B:=by
  cases t
  · exact h' rfl
  · exact h rfl
theorem WIf_congr {t u:Bool} (h:t = u) (A B:Prop):WIf t A B = WIf u A B:=by rw [h]
class Br where
  run:Prop
def WG (t:Bool) [A:Br] [B:Br]:Prop:=if t then A.run else B.run
theorem WG_eq (t:Bool) (A B:Prop):@WG t ⟨A⟩ ⟨B⟩ = WIf t A B:=rfl
theorem WG_true (A B:Br):@WG true A B = A.run:=(rfl)
theorem WG_false (A B:Br):@WG false A B = B.run:=(rfl)
theorem WG_not (t:Bool) (A B:Br):@WG (!t) A B = @WG t B A:=by cases t <;> rfl
theorem WG_intro {t:Bool} {A B:Prop} (h:t = true→A) (h':t = false→B):@WG t ⟨A⟩ ⟨B⟩:=WIf_intro h h'
def noCall:CallT:=fun _ _ _=>none
def evalL (e:Env):List HO→Option (List HV)
  | []=>some []
  | x :: xs=>match evalO e x,evalL e xs with
    | some v,some vs=>some (v :: vs)
    | _,_=>none
theorem evalL_mapM (e:Env):∀ xs:List HO,xs.mapM (evalO e) = evalL e xs
  | []=>rfl
  | x :: xs=>by
    rw [List.mapM_cons,evalL_mapM e xs]
    simp only [evalL]
    cases evalO e x <;> cases evalL e xs <;> rfl
def fnOf:HV→Option (FuncId × List HV × List HV)
  | .fn f a b=>some (f,a,b)
  | _=>none
def WOp (p:HProg) (e:Env) (H:St):HOp→(HV→St→Prop)→Prop
  | .callF f args,K=>WX (evalL e args) fun vs=>WCall p f vs H K
  | .callV x args,K=>WX ((evalO e x).bind fnOf) fun g=>WX (evalL e args) fun vs=>WCall p g.1 (g.2.1 ++ vs ++ g.2.2) H K
  | op,K=>WX (stepOp noCall (evalO e) H op) fun r=>K r.1 r.2
theorem WOp_sound {p:HProg} {e:Env} {H:St} {op:HOp} {K:HV→St→Prop} (h:WOp p e H op K) :
    ∃ v H',(Ev fun m=>stepOp (callN p m) (evalO e) H op = some (v,H')) ∧ K v H':=by
  have base:(∀ c,stepOp c (evalO e) H op = stepOp noCall (evalO e) H op)→WX (stepOp noCall (evalO e) H op) (fun r=>K r.1 r.2)→∃ v H',(Ev fun m=>stepOp (callN p m) (evalO e) H op = some (v,H')) ∧ K v H':=by
    rintro hc ⟨r,h1,h2⟩
    exact ⟨r.1,r.2,.always fun m=>by rw [hc,h1],h2⟩
  cases op
  case callF f args=>
    obtain ⟨vs,h1,r,H',h2,h3⟩:=h
    refine ⟨r,H',h2.mono fun m hm=>?_,h3⟩
    simp only [stepOp,evalL_mapM,h1]
    exact hm
  case callV x args=>
    obtain ⟨g,h0,vs,h1,r,H',h2,h3⟩:=h
    refine ⟨r,H',h2.mono fun m hm=>?_,h3⟩
    simp only [stepOp,evalL_mapM,h1]
    cases hx:evalO e x with
    | none=>rw [hx] at h0;cases h0
    | some v=>
      rw [hx] at h0
      cases v <;> simp only [Option.bind_some,fnOf,Option.some.injEq,reduceCtorEq] at h0
      subst h0
      exact hm
  all_goals exact base (fun _=>rfl) h
def wantedB (e:Env):Option (Nat × Bool)→(Bool→Prop)→Prop:=fun g K=>WX (wanted e g) K
def WO (p:HProg):List HOper→(Env→St→Prop)→Env→St→Prop
  | [],K,e,H=>K e H
  | o :: os,K,e,H=>match o.guard with
    | none=>WOp p e H o.op fun v H'=>WO p os K (e.put o.dst v) H'
    | some g=>WX (wanted e (some g)) fun t=>WIf t (WOp p e H o.op fun v H'=>WO p os K (e.put o.dst v) H') (WO p os K (e.put o.dst undefV) H)
theorem WO_sound {p:HProg}:∀ {ops:List HOper} {K:Env→St→Prop} {e:Env} {H:St},WO p ops K e H→∃ e' H',(Ev fun m=>runOps (callN p m) ops e H = some (e',H')) ∧ K e' H'
  | [],K,e,H,h=>⟨e,H,.always fun _=>rfl,h⟩
  | o :: os,K,e,H,h=>by
    simp only [WO] at h
    have go:(hw:wanted e o.guard = some true)→WOp p e H o.op (fun v H'=>WO p os K (e.put o.dst v) H')→∃ e' H',(Ev fun m=>runOps (callN p m) (o :: os) e H = some (e',H')) ∧ K e' H':=by
      intro hw h
      obtain ⟨v,H1,h1,h2⟩:=WOp_sound h
      obtain ⟨e',H',h3,h4⟩:=WO_sound h2
      refine ⟨e',H',(h1.and h3).mono fun m hm=>?_,h4⟩
      simp only [runOps,stepOper,hw,hm.1,hm.2]
    split at h
    · rename_i hg
      exact go (by rw [hg];rfl) h
    · rename_i g hg
      obtain ⟨t,h1,h2⟩:=h
      cases t with
      | true=>exact go (by rw [hg,h1]) h2
      | false=>
        obtain ⟨e',H',h3,h4⟩:=WO_sound (show WO p os K (e.put o.dst undefV) H from h2)
        refine ⟨e',H',h3.mono fun m hm=>?_,h4⟩
        simp only [runOps,stepOper,hg,h1,hm]
def WA (p:HProg):List HOper→(Env→St→Prop)→Env→St→Prop
  | [],K,e,H=>K e H
  | o :: os,K,e,H=>match o.op with
    | .alloc z=>WA p os K (e.put o.dst (.ref H.objs.length 0)) (H.alloc (.cells z))
    | _=>WA p os K e H
theorem WA_sound {p:HProg} {call:CallT}:∀ {ops:List HOper} {K:Env→St→Prop} {e:Env} {H:St},(∀ o ∈ ops,o.op.isAlloc = true→o.guard = none)→WA p ops K e H→∃ e' H',runAllocs call ops e H = some (e',H') ∧ K e' H'
  | [],K,e,H,_,h=>⟨e,H,rfl,h⟩
  | o :: os,K,e,H,hg,h=>by
    simp only [WA] at h
    split at h
    · rename_i z hz
      obtain ⟨e',H',h1,h2⟩:=WA_sound (call:=call) (fun x hx=>hg x (by simp [hx])) h
      have hgo:=hg o (by simp) (by rw [hz];rfl)
      refine ⟨e',H',?_,h2⟩
      simp only [runAllocs,hz,HOp.isAlloc,if_true,stepOper,hgo,wanted,stepOp,h1]
    · rename_i hz
      obtain ⟨e',H',h1,h2⟩:=WA_sound (call:=call) (fun x hx=>hg x (by simp [hx])) h
      refine ⟨e',H',?_,h2⟩
      have:o.op.isAlloc = false:=by
        cases ho:o.op <;> first | rfl | exact absurd ho (hz _)
      simp only [runAllocs,this,Bool.false_eq_true,if_false,h1]
def snapOk (e:Env) (o:HOper) (v:HV):List (Nat × St)→Prop
  | []=>True
  | s :: sn=>(WIf (o.un.contains s.1) (WX (stepOp noCall (evalO e) s.2 o.op) fun r=>r.1 = v) True) ∧ snapOk e o v sn
def pendOk (o:HOper) (H:St):List Look→Prop
  | []=>True
  | l :: pe=>(WIf (o.un.contains l.idx) (WX (stepOp noCall (evalO l.e) H l.o.op) fun r=>r.1 = l.v) True) ∧ pendOk o H pe
def WD (p:HProg):List HOper→Nat→List (Nat × St)→List Look→(Env→St→Prop)→Env→St→Prop
  | [],_,_,_,K,e,H=>K e H
  | o :: os,i,sn,pe,K,e,H=>WIf o.op.isAlloc (WD p os (i + 1) sn pe K e H) (
      WX (wanted e o.guard) fun t=>WIf t
        (WOp p e H o.op fun v H'=>
          WIf o.op.plain (WD p os (i + 1) sn pe K (e.put o.dst v) H)
            (WIf o.op.quiet
              (snapOk e o v sn ∧ WD p os (i + 1) sn (if o.un.isEmpty then pe else ⟨i,e,o,v⟩ :: pe) K (e.put o.dst v) H)
              (pendOk o H' pe ∧ WD p os (i + 1) (if o.un.isEmpty then sn else (i,H) :: sn) pe K (e.put o.dst v) H')))
        (WD p os (i + 1) sn pe K (e.put o.dst undefV) H))
mutual
theorem D.beq_refl:∀ a:D,D.beq a a = true
  | .bool a=>by simp [D.beq]
  | .int j a=>by simp [D.beq]
  | .str a=>by simp [D.beq]
  | .sl a=>rows_beq_refl a
  | .nilp=>rfl
  | .nilm=>rfl
  | .nilf=>rfl
theorem rows_beq_refl:∀ a:List (List D),rowsBeq a a = true
  | []=>rfl
  | a :: as=>by simp only [rowsBeq,row_beq_refl a,rows_beq_refl as,Bool.and_self]
theorem row_beq_refl:∀ a:List D,rowBeq a a = true
  | []=>rfl
  | a :: as=>by simp only [rowBeq,D.beq_refl a,row_beq_refl as,Bool.and_self]
end
theorem Tip.beq_refl (a:Tip):a.beq a = true:=by cases a <;> simp [Tip.beq]
mutual
theorem HV.beq_refl:∀ a:HV,HV.beq a a = true
  | .d a=>D.beq_refl a
  | .own a t=>by simp only [HV.beq,rows_beq_refl,Tip.beq_refl,Bool.and_self]
  | .ref a b=>by simp [HV.beq]
  | .row a b c d=>by simp [HV.beq]
  | .map a=>by simp [HV.beq]
  | .iref a=>row_beq_refl a
  | .fn f a b=>by simp only [HV.beq,vals_beq_refl,Bool.and_self,decide_true]
  | .agg a=>vals_beq_refl a
  | .tup a=>vals_beq_refl a
theorem vals_beq_refl:∀ a:List HV,valsBeq a a = true
  | []=>rfl
  | a :: as=>by simp only [valsBeq,HV.beq_refl a,vals_beq_refl as,Bool.and_self]
end
theorem quiet_noCall {o:HOp} (h:o.quiet = true) (c:CallT) (ρ:HO→Option HV) (H:St):stepOp c ρ H o = stepOp noCall ρ H o:=by
  cases o <;> first | (cases h;done) | rfl
theorem snap_sound {c:CallT} {e:Env} {o:HOper} (hq:o.op.quiet = true) {v:HV}:∀ {sn:List (Nat × St)},snapOk e o v sn→(sn.all fun s=>!o.un.contains s.1 || sameLook (stepOp c (evalO e) s.2 o.op) v) = true
  | [],_=>rfl
  | s :: sn,h=>by
    simp only [List.all_cons,Bool.and_eq_true]
    refine ⟨?_,snap_sound hq h.2⟩
    have h1:=h.1
    unfold WIf at h1
    split at h1
    · obtain ⟨r,h2,h3⟩:=h1
      rw [quiet_noCall hq,h2]
      simp [sameLook,h3,HV.beq_refl]
    · rename_i h2
      rw [show o.un.contains s.1 = false by simpa using h2]
      rfl
theorem pend_sound {c:CallT} {o:HOper} {H:St}:∀ {pe:List Look},(∀ l ∈ pe,l.o.op.quiet = true)→pendOk o H pe→(pe.all fun l=>!o.un.contains l.idx || sameLook (stepOp c (evalO l.e) H l.o.op) l.v) = true
  | [],_,_=>rfl
  | l :: pe,hq,h=>by
    simp only [List.all_cons,Bool.and_eq_true]
    refine ⟨?_,pend_sound (fun x hx=>hq x (by simp [hx])) h.2⟩
    have h1:=h.1
    unfold WIf at h1
    split at h1
    · obtain ⟨r,h2,h3⟩:=h1
      rw [quiet_noCall (hq l (by simp)),h2]
      simp [sameLook,h3,HV.beq_refl]
    · rename_i h2
      rw [show o.un.contains l.idx = false by simpa using h2]
      rfl
theorem WD_sound {p:HProg}:∀ {ops:List HOper} {i:Nat} {sn:List (Nat × St)} {pe:List Look} {K:Env→St→Prop} {e:Env} {H:St},(∀ l ∈ pe,l.o.op.quiet = true)→WD p ops i sn pe K e H →
    ∃ e' H',(Ev fun m=>drawOps (callN p m) ops i e H sn pe = some (e',H')) ∧ K e' H'
  | [],i,sn,pe,K,e,H,_,h=>⟨e,H,.always fun _=>rfl,h⟩
  | o :: os,i,sn,pe,K,e,H,hpe,h=>by
    simp only [WD] at h
    cases ha:o.op.isAlloc with
    | true=>
      rw [ha] at h
      obtain ⟨e',H',h3,h4⟩:=WD_sound hpe (show WD p os (i + 1) sn pe K e H from h)
      exact ⟨e',H',h3.mono fun m hm=>by simp only [drawOps,ha,if_true];exact hm,h4⟩
    | false=>
      rw [ha] at h
      obtain ⟨t,hw,h⟩:=h
      cases t with
      | false=>
        obtain ⟨e',H',h3,h4⟩:=WD_sound hpe (show WD p os (i + 1) sn pe K (e.put o.dst undefV) H from h)
        exact ⟨e',H',h3.mono fun m hm=>by simp only [drawOps,ha,Bool.false_eq_true,if_false,hw];exact hm,h4⟩
      | true=>
        obtain ⟨v,H1,h1,h2⟩:=WOp_sound (show WOp p e H o.op _ from h)
        cases hp:o.op.plain with
        | true=>
          rw [hp] at h2
          obtain ⟨e',H',h3,h4⟩:=WD_sound hpe (show WD p os (i + 1) sn pe K (e.put o.dst v) H from h2)
          refine ⟨e',H',(h1.and h3).mono fun m hm=>?_,h4⟩
          simp only [drawOps,ha,Bool.false_eq_true,if_false,hw,hm.1,hp,if_true]
          exact hm.2
        | false=>
          rw [hp] at h2
          cases hq:o.op.quiet with
          | true=>
            rw [hq] at h2
            obtain ⟨hs,h2⟩:=h2
            obtain ⟨e',H',h3,h4⟩:=WD_sound (pe:=if o.un.isEmpty then pe else ⟨i,e,o,v⟩ :: pe) (fun l hl=>by
              split at hl
              · exact hpe l hl
              · cases hl with
                | head=>exact hq
                | tail _ hl=>exact hpe l hl) h2
            refine ⟨e',H',(h1.and h3).mono fun m hm=>?_,h4⟩
            simp only [drawOps,ha,Bool.false_eq_true,if_false,hw,hm.1,hp,hq,if_true]
            rw [if_pos (snap_sound hq hs)]
            exact hm.2
          | false=>
            rw [hq] at h2
            obtain ⟨hs,h2⟩:=h2
            obtain ⟨e',H',h3,h4⟩:=WD_sound hpe (show WD p os (i + 1) (if o.un.isEmpty then sn else (i,H) :: sn) pe K (e.put o.dst v) H1 from h2)
            refine ⟨e',H',(h1.and h3).mono fun m hm=>?_,h4⟩
            simp only [drawOps,ha,Bool.false_eq_true,if_false,hw,hm.1,hp,hq]
            rw [if_pos (pend_sound hpe hs)]
            exact hm.2
def WLoop (keep:List Nat) (body:(Out→Env→St→Prop)→Env→St→Prop) (K:Out→Env→St→Prop):Nat→Env→St→Prop
  | 0,_,_=>False
  | n + 1,e,H=>body (fun o e' H'=>match o with
    | .normal=>let r:=closeRound H keep e' H';WLoop keep body K n r.1 r.2
    | o=>K o e' { H' with low:=minLow H.low H'.low }) (e.restrict keep) { H with low:=none }
def allocFree (ops:List HOper):Bool:=ops.all fun o=>!o.op.isAlloc || o.guard.isNone
def WC (p:HProg):HC→(Out→Env→St→Prop)→Env→St→Prop
  | .skip,K,e,H=>K .normal e H
  | .region false ops keep,K,e,H=>WO p ops (fun e' H'=>K .normal (e'.restrict keep) H') e H
  | .region true ops keep,K,e,H=>allocFree ops = true ∧ WA p ops (fun e1 H1=>WD p ops 0 [] [] (fun e' H'=>K .normal (e'.restrict keep) H') e1 H1) e H
  | .seq a b,K,e,H=>WC p a (fun o e' H'=>match o with | .normal=>WC p b K e' H' | o=>K o e' H') e H
  | .cond c a b,K,e,H=>WX (evalO e c) fun v=>match v with
    | .d (.bool t)=>WIf t (WC p a K e H) (WC p b K e H)
    | _=>False
  | .block id keep body,K,e,H=>WC p body (fun o e' H'=>match o with
    | .normal=>K .normal (e'.restrict keep) H'
    | .exit i=>WIf (i == id) (K .normal (e'.restrict keep) H') (K (.exit i) e' H')
    | o=>K o e' H') e H
  | .loop keep body,K,e,H=>∃ n,WLoop keep (WC p body) K n e H
  | .scope body,K,e,H=>WC p body K e H
  | .label _,K,e,H=>K .normal e H
  | .exit id,K,e,H=>K (.exit id) e H
  | .ret,K,e,H=>K .ret e H
theorem WX.mono {α:Type} {x:Option α} {K K':α→Prop} (hk:∀ a,K a→K' a) (h:WX x K):WX x K':=let ⟨a,h1,h2⟩:=h;⟨a,h1,hk a h2⟩
theorem WIf.mono {t:Bool} {A B A' B':Prop} (ha:A→A') (hb:B→B') (h:WIf t A B):WIf t A' B':=by
  cases t
  · exact hb h
  · exact ha h
theorem WCall.mono {p:HProg} {f:FuncId} {vs:List HV} {H:St} {K K':HV→St→Prop} (hk:∀ v H,K v H→K' v H) (h:WCall p f vs H K):WCall p f vs H K':=
  let ⟨r,H',h1,h2⟩:=h;⟨r,H',h1,hk _ _ h2⟩
theorem WOp.mono {p:HProg} {e:Env} {H:St} {op:HOp} {K K':HV→St→Prop} (hk:∀ v H,K v H→K' v H) (h:WOp p e H op K):WOp p e H op K':=by
  cases op
  case callF=>exact WX.mono (fun vs h=>WCall.mono hk h) h
  case callV=>exact WX.mono (fun g h=>WX.mono (fun vs h=>WCall.mono hk h) h) h
  all_goals exact WX.mono (fun r h=>hk _ _ h) h
theorem WO.mono {p:HProg}:∀ {ops:List HOper} {K K':Env→St→Prop} {e:Env} {H:St},(∀ e H,K e H→K' e H)→WO p ops K e H→WO p ops K' e H
  | [],_,_,_,_,hk,h=>hk _ _ h
  | o :: os,K,K',e,H,hk,h=>by
    simp only [WO] at h ⊢
    cases hg:o.guard with
    | none=>
      simp only [hg] at h
      exact WOp.mono (fun _ _ h=>WO.mono hk h) h
    | some g=>
      simp only [hg] at h
      exact WX.mono (fun t h=>WIf.mono (WOp.mono fun _ _ h=>WO.mono hk h) (WO.mono hk) h) h
theorem WA.mono {p:HProg}:∀ {ops:List HOper} {K K':Env→St→Prop} {e:Env} {H:St},(∀ e H,K e H→K' e H)→WA p ops K e H→WA p ops K' e H
  | [],_,_,_,_,hk,h=>hk _ _ h
  | o :: os,K,K',e,H,hk,h=>by
    simp only [WA] at h ⊢
    split at h
    · rename_i z hz
      first
        | exact WA.mono hk h
        | (simp only [hz];exact WA.mono hk h)
    · rename_i hz
      cases ho:o.op <;> first | exact absurd ho (hz _) | exact WA.mono hk h
theorem WD.mono {p:HProg}:∀ {ops:List HOper} {i:Nat} {sn:List (Nat × St)} {pe:List Look} {K K':Env→St→Prop} {e:Env} {H:St},(∀ e H,K e H→K' e H)→WD p ops i sn pe K e H→WD p ops i sn pe K' e H
  | [],_,_,_,_,_,_,_,hk,h=>hk _ _ h
  | o :: os,i,sn,pe,K,K',e,H,hk,h=>by
    simp only [WD] at h ⊢
    exact WIf.mono (WD.mono hk) (WX.mono fun t=>WIf.mono (WOp.mono fun v H'=>WIf.mono (WD.mono hk) (WIf.mono (And.imp_right (WD.mono hk)) (And.imp_right (WD.mono hk)))) (WD.mono hk)) h
theorem WLoop.mono {keep:List Nat} {body:(Out→Env→St→Prop)→Env→St→Prop} (hb:∀ (K K':Out→Env→St→Prop) (e:Env) (H:St),(∀ o e H,K o e H→K' o e H)→body K e H→body K' e H) {K K':Out→Env→St→Prop} (hk:∀ o e H,K o e H→K' o e H) :
    ∀ {n:Nat} {e:Env} {H:St},WLoop keep body K n e H→WLoop keep body K' n e H
  | 0,_,_,h=>h
  | n + 1,e,H,h=>by
    simp only [WLoop] at h ⊢
    refine hb _ _ _ _ (fun o e' H' ho=>?_) h
    cases o with
    | normal=>exact WLoop.mono hb hk (show WLoop keep body K n _ _ from ho)
    | exit i=>exact hk _ _ _ ho
    | ret=>exact hk _ _ _ ho
theorem WC.mono {p:HProg}:∀ {c:HC} {K K':Out→Env→St→Prop} {e:Env} {H:St},(∀ o e H,K o e H→K' o e H)→WC p c K e H→WC p c K' e H
  | .skip,_,_,_,_,hk,h=>hk _ _ _ h
  | .region false _ _,_,_,_,_,hk,h=>WO.mono (fun _ _ h=>hk _ _ _ h) h
  | .region true _ _,_,_,_,_,hk,h=>⟨h.1,WA.mono (fun _ _ h=>WD.mono (fun _ _ h=>hk _ _ _ h) h) h.2⟩
  | .seq a b,K,K',e,H,hk,h=>by
    refine WC.mono (c:=a) (fun o e' H' ho=>?_) h
    cases o with
    | normal=>exact WC.mono (c:=b) hk ho
    | exit i=>exact hk _ _ _ ho
    | ret=>exact hk _ _ _ ho
  | .cond c a b,K,K',e,H,hk,h=>by
    refine WX.mono (fun v hv=>?_) h
    split at hv
    · exact WIf.mono (WC.mono (c:=a) hk) (WC.mono (c:=b) hk) hv
    · exact hv
  | .block id keep body,K,K',e,H,hk,h=>by
    refine WC.mono (c:=body) (fun o e' H' ho=>?_) h
    cases o with
    | normal=>exact hk _ _ _ ho
    | exit i=>exact WIf.mono (hk _ _ _) (hk _ _ _) ho
    | ret=>exact hk _ _ _ ho
  | .loop keep body,K,K',e,H,hk,h=>let ⟨n,h⟩:=h;⟨n,WLoop.mono (body:=WC p body) (fun _ _ _ _ hk h=>WC.mono (c:=body) hk h) hk h⟩
  | .scope body,_,_,_,_,hk,h=>WC.mono (c:=body) hk h
  | .label _,_,_,_,_,hk,h=>hk _ _ _ h
  | .exit _,_,_,_,_,hk,h=>hk _ _ _ h
  | .ret,_,_,_,_,hk,h=>hk _ _ _ h
theorem iter_mono {s:Step} {n m:Nat} (h:n ≤ m):∀ {e:Env} {H:St} {r:Out × Env × St},iter s n e H = some r→iter s m e H = some r:=by
  induction n generalizing m with
  | zero=>intro e H r hr;cases hr
  | succ n ih=>
    intro e H r hr
    cases m with
    | zero=>omega
    | succ m=>
      simp only [iter] at hr ⊢
      split at hr
      · rename_i h1
        exact ih (by omega) hr
      · rename_i hne
        first
          | exact hr
          | (split
             · rename_i e' H' h1
               exact absurd h1 (hne e' H')
             · exact hr)
theorem WC_sound {p:HProg}:∀ {c:HC} {K:Out→Env→St→Prop} {e:Env} {H:St},WC p c K e H→∃ o e' H',(Ev fun m=>exec m (callN p m) c e H = some (o,e',H')) ∧ K o e' H'
  | .skip,K,e,H,h=>⟨.normal,e,H,.always fun _=>rfl,h⟩
  | .region false ops keep,K,e,H,h=>by
    obtain ⟨e',H',h1,h2⟩:=WO_sound h
    exact ⟨.normal,_,H',h1.mono fun m hm=>by simp only [exec,Bool.false_eq_true,if_false,hm],h2⟩
  | .region true ops keep,K,e,H,h=>by
    obtain ⟨hf,h⟩:=h
    have hg:∀ o ∈ ops,o.op.isAlloc = true→o.guard = none:=fun o ho ha=>by
      have:=List.all_eq_true.1 hf o ho
      simpa [ha] using this
    have key:∀ call:CallT,∃ e1 H1,runAllocs call ops e H = some (e1,H1) ∧ WD p ops 0 [] [] (fun e' H'=>K .normal (e'.restrict keep) H') e1 H1:=fun call=>WA_sound hg h
    obtain ⟨e1,H1,_,h2⟩:=key noCall
    have same:∀ call:CallT,runAllocs call ops e H = some (e1,H1):=by
      rename_i h1
      intro call
      rw [← h1]
      clear h1 h2 key h
      have:∀ (l:List HOper) (e:Env) (H:St),runAllocs call l e H = runAllocs noCall l e H:=by
        intro l
        induction l with
        | nil=>intro e H;rfl
        | cons o l ih=>
          intro e H
          simp only [runAllocs]
          split
          · rename_i ha
            have:stepOper call e H o = stepOper noCall e H o:=by
              unfold stepOper
              cases ho:o.op <;> rw [ho] at ha <;> simp_all [HOp.isAlloc,stepOp]
            rw [this]
            cases stepOper noCall e H o with
            | none=>rfl
            | some r=>exact ih _ _
          · exact ih _ _
      exact this ops e H
    obtain ⟨e',H',h3,h4⟩:=WD_sound (fun l hl=>by cases hl) h2
    exact ⟨.normal,_,H',h3.mono fun m hm=>by simp only [exec,if_true,same,hm],h4⟩
  | .seq a b,K,e,H,h=>by
    obtain ⟨o,e1,H1,h1,h2⟩:=WC_sound (c:=a) h
    cases o with
    | normal=>
      obtain ⟨o,e',H',h3,h4⟩:=WC_sound (c:=b) h2
      exact ⟨o,e',H',(h1.and h3).mono fun m hm=>by simp only [exec,hm.1,hm.2],h4⟩
    | exit i=>exact ⟨_,e1,H1,h1.mono fun m hm=>by simp only [exec,hm],h2⟩
    | ret=>exact ⟨_,e1,H1,h1.mono fun m hm=>by simp only [exec,hm],h2⟩
  | .cond c a b,K,e,H,h=>by
    obtain ⟨v,h1,h2⟩:=h
    split at h2
    · rename_i t
      cases t with
      | true=>
        obtain ⟨o,e',H',h3,h4⟩:=WC_sound (c:=a) (show WC p a K e H from h2)
        exact ⟨o,e',H',h3.mono fun m hm=>by simp only [exec,h1,hm],h4⟩
      | false=>
        obtain ⟨o,e',H',h3,h4⟩:=WC_sound (c:=b) (show WC p b K e H from h2)
        exact ⟨o,e',H',h3.mono fun m hm=>by simp only [exec,h1,hm],h4⟩
    · cases h2
  | .block id keep body,K,e,H,h=>by
    obtain ⟨o,e1,H1,h1,h2⟩:=WC_sound (c:=body) h
    cases o with
    | normal=>exact ⟨_,_,H1,h1.mono fun m hm=>by simp only [exec,hm],h2⟩
    | exit i=>
      by_cases hi:i = id
      · subst hi
        have h2:WIf (i == i) (K .normal (e1.restrict keep) H1) (K (.exit i) e1 H1):=h2
        simp only [beq_self_eq_true,WIf_true] at h2
        exact ⟨_,_,H1,h1.mono fun m hm=>by simp only [exec,hm,if_true],h2⟩
      · have h2:WIf (i == id) (K .normal (e1.restrict keep) H1) (K (.exit i) e1 H1):=h2
        rw [show (i == id) = false by simpa using hi,WIf_false] at h2
        exact ⟨_,_,H1,h1.mono fun m hm=>by simp only [exec,hm,if_neg hi],h2⟩
    | ret=>exact ⟨_,e1,H1,h1.mono fun m hm=>by simp only [exec,hm],h2⟩
  | .loop keep body,K,e,H,h=>by
    obtain ⟨n,h⟩:=h
    have key:∀ (n:Nat) (e:Env) (H:St),WLoop keep (WC p body) K n e H→∃ o e' H',(Ev fun m=>iter (round keep (exec m (callN p m) body)) n e H = some (o,e',H')) ∧ K o e' H':=by
      intro n
      induction n with
      | zero=>intro e H h;cases h
      | succ n ih=>
        intro e H h
        simp only [WLoop] at h
        obtain ⟨o,e1,H1,h1,h2⟩:=WC_sound (c:=body) h
        cases o with
        | normal=>
          obtain ⟨o,e',H',h3,h4⟩:=ih _ _ h2
          exact ⟨o,e',H',(h1.and h3).mono fun m hm=>by simp only [iter,round,hm.1,hm.2],h4⟩
        | exit i=>exact ⟨_,e1,_,h1.mono fun m hm=>by simp only [iter,round,hm],h2⟩
        | ret=>exact ⟨_,e1,_,h1.mono fun m hm=>by simp only [iter,round,hm],h2⟩
    obtain ⟨o,e',H',h1,h2⟩:=key n e H h
    refine ⟨o,e',H',?_,h2⟩
    obtain ⟨k,hk⟩:=h1
    refine ⟨max k n,fun m hm=>?_⟩
    simp only [exec]
    exact iter_mono (by omega) (hk m (by omega))
  | .scope body,K,e,H,h=>by
    obtain ⟨o,e',H',h3,h4⟩:=WC_sound (c:=body) h
    exact ⟨o,e',H',h3.mono fun m hm=>by simp only [exec,hm],h4⟩
  | .label _,K,e,H,h=>⟨.normal,e,H,.always fun _=>rfl,h⟩
  | .exit id,K,e,H,h=>⟨.exit id,e,H,.always fun _=>rfl,h⟩
  | .ret,K,e,H,h=>⟨.ret,e,H,.always fun _=>rfl,h⟩
def WEnd (hf:HFun) (H:St) (r:HV) (H':St):Out→Env→St→Prop
  | .exit _,_,_=>False
  | _,e,H1=>WX (results e H1 hf.res) fun vs=>finish hf.pol H vs H1 = (r,H')
theorem calls_of {p:HProg} {f:FuncId} {hf:HFun} {args:List HV} {H H':St} {r:HV} (h1:p.ext f = none) (h2:p.funs f = some hf) (h:WC p hf.code (WEnd hf H r H') (enter hf.open_ 0 args) { H with low:=none }):CallsA p f args H r H':=by
  obtain ⟨o,e,H1,h3,h4⟩:=WC_sound h
  refine Ev.succ (h3.mono fun m hm=>?_)
  simp only [callN,h1,h2,runFun,hm]
  cases o with
  | exit i=>cases h4
  | normal=>
    obtain ⟨vs,h5,h6⟩:=h4
    simp only [h5,Option.map_some,h6]
  | ret=>
    obtain ⟨vs,h5,h6⟩:=h4
    simp only [h5,Option.map_some,h6]
def WEnd2 (res:List HRes) (pol:RetPol) (H:St) (r:HV) (H':St):Out→Env→St→Prop
  | .exit _,_,_=>False
  | _,e,H1=>WX (results e H1 res) fun vs=>finish pol H vs H1 = (r,H')
theorem calls_of2 {p:HProg} {f:FuncId} {code:HC} {res:List HRes} {pol:RetPol} {args:List HV} {H H':St} {r:HV} (h1:p.ext f = none) (h2:p.funs f = some ⟨code,res,[],pol⟩)
    (h:WC p code (WEnd2 res pol H r H') (enter [] 0 args) { H with low:=none }):CallsA p f args H r H':=
  calls_of h1 h2 (WC.mono (fun o e H1 ho=>by cases o <;> exact ho) h)
theorem loop_of {p:HProg} {keep:List Nat} {body:HC} {K:Out→Env→St→Prop} (I:Nat→Env→St→Prop) (n:Nat) {e:Env} {H:St} (h0:I n e H)
    (h:∀ n e H,I n e H→WC p body (fun o e' H'=>match o with
      | .normal=>∃ k,k < n ∧ I k (closeRound H keep e' H').1 (closeRound H keep e' H').2
      | o=>K o e' { H' with low:=minLow H.low H'.low }) (e.restrict keep) { H with low:=none }):WC p (.loop keep body) K e H:=by
  refine ⟨n + 1,?_⟩
  have key:∀ (b n:Nat) (e:Env) (H:St),n < b→I n e H→WLoop keep (WC p body) K b e H:=by
    intro b
    induction b with
    | zero=>intro n e H hn;omega
    | succ b ih=>
      intro n e H hn hI
      simp only [WLoop]
      refine WC.mono (fun o e' H' ho=>?_) (h n e H hI)
      cases o with
      | normal=>
        obtain ⟨k,hk,hI'⟩:=ho
        exact ih k _ _ (by omega) hI'
      | exit i=>exact ho
      | ret=>exact ho
  exact key (n + 1) n e H (by omega) h0
end Am
