/- A part of the proof of BuildAgain: no condition of its own. Whence: AmS. -/
import Derived.Test.YtgepkelfblhpnaaGreatDoorA15
set_option linter.all false
namespace Am
open Go
attribute [go_sem] Nat.reduceEqDiff Nat.reduceAdd Nat.reduceSub Nat.reduceMul Nat.reduceLeDiff Nat.reduceLT Nat.reduceBEq Int.toNat_natCast Int.natCast_nonneg Int.reduceToNat Int.reduceLE Int.reduceLT Int.reduceNeg decide_true decide_false Int.cast_ofNat_Int Int.natCast_zero Int.natCast_one Int.reduceAdd Int.reduceSub Int.reduceMul Int.reduceBEq Int.reduceBNe
attribute [go_sem ↓] reduceIte
section
variable {p:HProg} {K:Out→Env→St→Prop} {e:Env} {H:St}
@[congr] theorem WX_congr' {α:Type} {x y:Option α} {K:α→Prop} (h:x = y):WX x K = WX y K:=by rw [h]
@[congr] theorem WIf_congr' {t u:Bool} {A B:Prop} (h:t = u):WIf t A B = WIf u A B:=by rw [h]
@[congr] theorem WC_congr {c:HC} {e e':Env} {H H':St} (h:e = e') (h':H = H'):WC p c K e H = WC p c K e' H':=by rw [h,h']
@[congr] theorem WO_congr {ops:List HOper} {K:Env→St→Prop} {e e':Env} {H H':St} (h:e = e') (h':H = H'):WO p ops K e H = WO p ops K e' H':=by rw [h,h']
@[congr] theorem WA_congr {ops:List HOper} {K:Env→St→Prop} {e e':Env} {H H':St} (h:e = e') (h':H = H'):WA p ops K e H = WA p ops K e' H':=by rw [h,h']
@[congr] theorem WD_congr {ops:List HOper} {i i':Nat} {sn sn':List (Nat × St)} {pe pe':List Look} {K:Env→St→Prop} {e e':Env} {H H':St} (hi:i = i') (hs:sn = sn') (hp:pe = pe') (h:e = e') (h':H = H'):WD p ops i sn pe K e H = WD p ops i' sn' pe' K e' H':=by rw [h,h',hi,hs,hp]
@[congr] theorem WOp_congr {op:HOp} {K:HV→St→Prop} {e e':Env} {H H':St} (h:e = e') (h':H = H'):WOp p e H op K = WOp p e' H' op K:=by rw [h,h']
@[congr] theorem WCall_congr {f:FuncId} {vs vs':List HV} {K:HV→St→Prop} {H H':St} (h:vs = vs') (h':H = H'):WCall p f vs H K = WCall p f vs' H' K:=by rw [h,h']
def kSeq (p:HProg) (b:HC) (K:Out→Env→St→Prop):Out→Env→St→Prop
  | .normal,e,H=>WC p b K e H
  | o,e,H=>K o e H
def kBlock (id:Nat) (keep:List Nat) (K:Out→Env→St→Prop):Out→Env→St→Prop
  | .normal,e,H=>K .normal (e.restrict keep) H
  | .exit i,e,H=>WIf (i == id) (K .normal (e.restrict keep) H) (K (.exit i) e H)
  | o,e,H=>K o e H
def kReg (keep:List Nat) (K:Out→Env→St→Prop) (e:Env) (H:St):Prop:=K .normal (e.restrict keep) H
def kCond (p:HProg) (a b:HC) (K:Out→Env→St→Prop) (e:Env) (H:St):HV→Prop
  | .d (.bool t)=>WIf t (WC p a K e H) (WC p b K e H)
  | _=>False
def kOp (p:HProg) (d:Option Nat) (os:List HOper) (K:Env→St→Prop) (e:Env) (v:HV) (H:St):Prop:=WO p os K (e.put d v) H
def kPure (K:HV→St→Prop) (r:HV × St):Prop:=K r.1 r.2
@[go_sem] theorem wc_skip:WC p .skip K e H = K .normal e H:=by rw [WC]
@[go_sem] theorem wc_ret:WC p .ret K e H = K .ret e H:=by rw [WC]
@[go_sem] theorem wc_exit (i:Nat):WC p (.exit i) K e H = K (.exit i) e H:=by rw [WC]
@[go_sem] theorem wc_label (i:Nat):WC p (.label i) K e H = K .normal e H:=by rw [WC]
@[go_sem] theorem wc_scope (b:HC):WC p (.scope b) K e H = WC p b K e H:=by rw [WC]
@[go_sem] theorem wc_seq (a b:HC):WC p (.seq a b) K e H = WC p a (kSeq p b K) e H:=by
  rw [WC];congr 1;funext o e H;cases o <;> rfl
@[go_sem] theorem kSeq_normal (b:HC):kSeq p b K .normal e H = WC p b K e H:=(rfl)
@[go_sem] theorem kSeq_exit (b:HC) (i:Nat):kSeq p b K (.exit i) e H = K (.exit i) e H:=(rfl)
@[go_sem] theorem kSeq_ret (b:HC):kSeq p b K .ret e H = K .ret e H:=(rfl)
@[go_sem] theorem wc_region (ops:List HOper) (keep:List Nat):WC p (.region false ops keep) K e H = WO p ops (kReg keep K) e H:=by rw [WC];rfl
@[go_sem] theorem kReg_eq (keep:List Nat):kReg keep K e H = K .normal (e.restrict keep) H:=(rfl)
@[go_sem] theorem wc_block (id:Nat) (keep:List Nat) (b:HC):WC p (.block id keep b) K e H = WC p b (kBlock id keep K) e H:=by
  rw [WC];congr 1;funext o e H;cases o <;> rfl
@[go_sem] theorem kBlock_normal (id:Nat) (keep:List Nat):kBlock id keep K .normal e H = K .normal (e.restrict keep) H:=(rfl)
@[go_sem] theorem kBlock_exit (id:Nat) (keep:List Nat) (i:Nat):kBlock id keep K (.exit i) e H = WIf (i == id) (K .normal (e.restrict keep) H) (K (.exit i) e H):=(rfl)
@[go_sem] theorem kBlock_ret (id:Nat) (keep:List Nat):kBlock id keep K .ret e H = K .ret e H:=(rfl)
@[go_sem] theorem wc_cond (c:HO) (a b:HC):WC p (.cond c a b) K e H = WX (evalO e c) (kCond p a b K e H):=by
  rw [WC];try rfl
@[go_sem] theorem kCond_bool (a b:HC) (t:Bool):kCond p a b K e H (.d (.bool t)) = @WG t ⟨WC p a K e H⟩ ⟨WC p b K e H⟩:=(rfl)
@[go_sem] theorem wo_nil (K:Env→St→Prop):WO p [] K e H = K e H:=by rw [WO]
@[go_sem] theorem wo_cons (d:Option Nat) (op:HOp) (u:List Nat) (os:List HOper) (K:Env→St→Prop):WO p (⟨d,op,none,u⟩ :: os) K e H = WOp p e H op (kOp p d os K e):=by rw [WO];rfl
def kGuard (p:HProg) (o:HOper) (os:List HOper) (K:Env→St→Prop) (e:Env) (H:St) (t:Bool):Prop:=WIf t (WOp p e H o.op (kOp p o.dst os K e)) (WO p os K (e.put o.dst undefV) H)
@[go_sem] theorem wo_guard (d:Option Nat) (op:HOp) (g:Nat × Bool) (u:List Nat) (os:List HOper) (K:Env→St→Prop):WO p (⟨d,op,some g,u⟩ :: os) K e H = WX (wanted e (some g)) (kGuard p ⟨d,op,some g,u⟩ os K e H):=by rw [WO];rfl
@[go_sem] theorem kGuard_eq (d:Option Nat) (op:HOp) (g:Option (Nat × Bool)) (u:List Nat) (os:List HOper) (K:Env→St→Prop) (t:Bool):kGuard p ⟨d,op,g,u⟩ os K e H t = @WG t ⟨WOp p e H op (kOp p d os K e)⟩ ⟨WO p os K (e.put d undefV) H⟩:=(rfl)
@[go_sem] theorem kOp_eq (d:Option Nat) (os:List HOper) (K:Env→St→Prop) (v:HV):kOp p d os K e v H = WO p os K (e.put d v) H:=(rfl)
@[go_sem] theorem kPure_eq (K:HV→St→Prop) (v:HV):kPure K (v,H) = K v H:=(rfl)
def kCall (p:HProg) (f:FuncId) (H:St) (K:HV→St→Prop) (vs:List HV):Prop:=WCall p f vs H K
@[go_sem] theorem kCall_eq (f:FuncId) (K:HV→St→Prop) (vs:List HV):kCall p f H K vs = WCall p f vs H K:=(rfl)
def kCallV (p:HProg) (e:Env) (H:St) (args:List HO) (K:HV→St→Prop) (g:FuncId × List HV × List HV):Prop:=WX (evalL e args) fun vs=>WCall p g.1 (g.2.1 ++ vs ++ g.2.2) H K
def kCallW (p:HProg) (f:FuncId) (a b:List HV) (H:St) (K:HV→St→Prop) (vs:List HV):Prop:=WCall p f (a ++ vs ++ b) H K
@[go_sem] theorem kCallV_eq (args:List HO) (K:HV→St→Prop) (f:FuncId) (a b:List HV):kCallV p e H args K (f,a,b) = WX (evalL e args) (kCallW p f a b H K):=(rfl)
@[go_sem] theorem kCallW_eq (f:FuncId) (a b:List HV) (K:HV→St→Prop) (vs:List HV):kCallW p f a b H K vs = WCall p f (a ++ vs ++ b) H K:=(rfl)
@[go_sem] theorem wop_callF (f:FuncId) (args:List HO) (K:HV→St→Prop):WOp p e H (.callF f args) K = WX (evalL e args) (kCall p f H K):=(rfl)
@[go_sem] theorem wop_callV (x:HO) (args:List HO) (K:HV→St→Prop):WOp p e H (.callV x args) K = WX ((evalO e x).bind fnOf) (kCallV p e H args K):=(rfl)
@[go_sem] theorem wop_move (x:HO) (K:HV→St→Prop):WOp p e H (.move x) K = WX (stepOp noCall (evalO e) H (.move x)) (kPure K):=(rfl)
@[go_sem] theorem wop_nilTok (K:HV→St→Prop):WOp p e H .nilTok K = WX (stepOp noCall (evalO e) H .nilTok) (kPure K):=(rfl)
@[go_sem] theorem wop_pick (c a b:HO) (K:HV→St→Prop):WOp p e H (.pick c a b) K = WX (stepOp noCall (evalO e) H (.pick c a b)) (kPure K):=(rfl)
@[go_sem] theorem wop_alloc (z:List HV) (K:HV→St→Prop):WOp p e H (.alloc z) K = WX (stepOp noCall (evalO e) H (.alloc z)) (kPure K):=(rfl)
@[go_sem] theorem wop_box (sz:Nat) (x:HO) (K:HV→St→Prop):WOp p e H (.box sz x) K = WX (stepOp noCall (evalO e) H (.box sz x)) (kPure K):=(rfl)
@[go_sem] theorem wop_load (sz:Nat) (a:Bool) (x:HO) (K:HV→St→Prop):WOp p e H (.load sz a x) K = WX (stepOp noCall (evalO e) H (.load sz a x)) (kPure K):=(rfl)
@[go_sem] theorem wop_store (sz:Nat) (x v:HO) (K:HV→St→Prop):WOp p e H (.store sz x v) K = WX (stepOp noCall (evalO e) H (.store sz x v)) (kPure K):=(rfl)
@[go_sem] theorem wop_nilCheck (x:HO) (K:HV→St→Prop):WOp p e H (.nilCheck x) K = WX (stepOp noCall (evalO e) H (.nilCheck x)) (kPure K):=(rfl)
@[go_sem] theorem wop_bin (op:BinOp) (x y:HO) (K:HV→St→Prop):WOp p e H (.bin op x y) K = WX (stepOp noCall (evalO e) H (.bin op x y)) (kPure K):=(rfl)
@[go_sem] theorem wop_binB (n:Bool) (x y:HO) (K:HV→St→Prop):WOp p e H (.binB n x y) K = WX (stepOp noCall (evalO e) H (.binB n x y)) (kPure K):=(rfl)
@[go_sem] theorem wop_binP (n:Bool) (x y:HO) (K:HV→St→Prop):WOp p e H (.binP n x y) K = WX (stepOp noCall (evalO e) H (.binP n x y)) (kPure K):=(rfl)
@[go_sem] theorem wop_eqAgg (n:Bool) (ks:List LK) (x y:HO) (K:HV→St→Prop):WOp p e H (.eqAgg n ks x y) K = WX (stepOp noCall (evalO e) H (.eqAgg n ks x y)) (kPure K):=(rfl)
@[go_sem] theorem wop_un (op:UnOp) (x:HO) (K:HV→St→Prop):WOp p e H (.un op x) K = WX (stepOp noCall (evalO e) H (.un op x)) (kPure K):=(rfl)
@[go_sem] theorem wop_convInt (k:IntKind) (x:HO) (K:HV→St→Prop):WOp p e H (.convInt k x) K = WX (stepOp noCall (evalO e) H (.convInt k x)) (kPure K):=(rfl)
@[go_sem] theorem wop_convBS (x:HO) (K:HV→St→Prop):WOp p e H (.convBS x) K = WX (stepOp noCall (evalO e) H (.convBS x)) (kPure K):=(rfl)
@[go_sem] theorem wop_convSB (x:HO) (K:HV→St→Prop):WOp p e H (.convSB x) K = WX (stepOp noCall (evalO e) H (.convSB x)) (kPure K):=(rfl)
@[go_sem] theorem wop_convSS (x:HO) (K:HV→St→Prop):WOp p e H (.convSS x) K = WX (stepOp noCall (evalO e) H (.convSS x)) (kPure K):=(rfl)
@[go_sem] theorem wop_makeMap (a b:Bool) (h:Option HO) (K:HV→St→Prop):WOp p e H (.makeMap a b h) K = WX (stepOp noCall (evalO e) H (.makeMap a b h)) (kPure K):=(rfl)
@[go_sem] theorem wop_makeSlice (sz:Nat) (z:List HV) (l c:HO) (K:HV→St→Prop):WOp p e H (.makeSlice sz z l c) K = WX (stepOp noCall (evalO e) H (.makeSlice sz z l c)) (kPure K):=(rfl)
@[go_sem] theorem wop_sliceStr (x:HO) (l h:Option HO) (K:HV→St→Prop):WOp p e H (.sliceStr x l h) K = WX (stepOp noCall (evalO e) H (.sliceStr x l h)) (kPure K):=(rfl)
@[go_sem] theorem wop_sliceSl (sz:Nat) (x:HO) (l h:Option HO) (K:HV→St→Prop):WOp p e H (.sliceSl sz x l h) K = WX (stepOp noCall (evalO e) H (.sliceSl sz x l h)) (kPure K):=(rfl)
@[go_sem] theorem wop_sliceArr (n sz:Nat) (x:HO) (l h:Option HO) (K:HV→St→Prop):WOp p e H (.sliceArr n sz x l h) K = WX (stepOp noCall (evalO e) H (.sliceArr n sz x l h)) (kPure K):=(rfl)
@[go_sem] theorem wop_fieldAddr (o:Nat) (x:HO) (K:HV→St→Prop):WOp p e H (.fieldAddr o x) K = WX (stepOp noCall (evalO e) H (.fieldAddr o x)) (kPure K):=(rfl)
@[go_sem] theorem wop_field (o sz:Nat) (a:Bool) (x:HO) (K:HV→St→Prop):WOp p e H (.field o sz a x) K = WX (stepOp noCall (evalO e) H (.field o sz a x)) (kPure K):=(rfl)
@[go_sem] theorem wop_indexAddrArr (n sz:Nat) (x i:HO) (K:HV→St→Prop):WOp p e H (.indexAddrArr n sz x i) K = WX (stepOp noCall (evalO e) H (.indexAddrArr n sz x i)) (kPure K):=(rfl)
@[go_sem] theorem wop_indexAddrSl (sz:Nat) (x i:HO) (K:HV→St→Prop):WOp p e H (.indexAddrSl sz x i) K = WX (stepOp noCall (evalO e) H (.indexAddrSl sz x i)) (kPure K):=(rfl)
@[go_sem] theorem wop_indexStr (x i:HO) (K:HV→St→Prop):WOp p e H (.indexStr x i) K = WX (stepOp noCall (evalO e) H (.indexStr x i)) (kPure K):=(rfl)
@[go_sem] theorem wop_lookup (z:List D) (a b:Bool) (ks:List LK) (m k:HO) (ok:Bool) (K:HV→St→Prop):WOp p e H (.lookup z a b ks m k ok) K = WX (stepOp noCall (evalO e) H (.lookup z a b ks m k ok)) (kPure K):=(rfl)
@[go_sem] theorem wop_mapUpdate (a b:Bool) (ks:List LK) (m k v:HO) (K:HV→St→Prop):WOp p e H (.mapUpdate a b ks m k v) K = WX (stepOp noCall (evalO e) H (.mapUpdate a b ks m k v)) (kPure K):=(rfl)
@[go_sem] theorem wop_mapEntry (z:List D) (a b:Bool) (ks:List LK) (m k:HO) (K:HV→St→Prop):WOp p e H (.mapEntry z a b ks m k) K = WX (stepOp noCall (evalO e) H (.mapEntry z a b ks m k)) (kPure K):=(rfl)
@[go_sem] theorem wop_entryStore (a:Bool) (m s v:HO) (K:HV→St→Prop):WOp p e H (.entryStore a m s v) K = WX (stepOp noCall (evalO e) H (.entryStore a m s v)) (kPure K):=(rfl)
@[go_sem] theorem wop_rangeStr (x:HO) (K:HV→St→Prop):WOp p e H (.rangeStr x) K = WX (stepOp noCall (evalO e) H (.rangeStr x)) (kPure K):=(rfl)
@[go_sem] theorem wop_nextStr (x:HO) (K:HV→St→Prop):WOp p e H (.nextStr x) K = WX (stepOp noCall (evalO e) H (.nextStr x)) (kPure K):=(rfl)
@[go_sem] theorem wop_extract (x:HO) (i:Nat) (K:HV→St→Prop):WOp p e H (.extract x i) K = WX (stepOp noCall (evalO e) H (.extract x i)) (kPure K):=(rfl)
@[go_sem] theorem wop_lenC (n:Nat) (K:HV→St→Prop):WOp p e H (.lenC n) K = WX (stepOp noCall (evalO e) H (.lenC n)) (kPure K):=(rfl)
@[go_sem] theorem wop_len (k:LK) (x:HO) (K:HV→St→Prop):WOp p e H (.len k x) K = WX (stepOp noCall (evalO e) H (.len k x)) (kPure K):=(rfl)
@[go_sem] theorem wop_copy (sz:Nat) (x y:HO) (K:HV→St→Prop):WOp p e H (.copy sz x y) K = WX (stepOp noCall (evalO e) H (.copy sz x y)) (kPure K):=(rfl)
@[go_sem] theorem wop_delete (a:Bool) (ks:List LK) (m k:HO) (K:HV→St→Prop):WOp p e H (.delete a ks m k) K = WX (stepOp noCall (evalO e) H (.delete a ks m k)) (kPure K):=(rfl)
def pcons:Option (Nat × Nat × HV)→Option (List (Nat × Nat × HV))→Option (List (Nat × Nat × HV))
  | some v,some vs=>some (v :: vs)
  | _,_=>none
@[go_sem] theorem pcons_some (v:Nat × Nat × HV) (vs:List (Nat × Nat × HV)):pcons (some v) (some vs) = some (v :: vs):=(rfl)
def partsL (e:Env):List (Nat × Nat × HO)→Option (List (Nat × Nat × HV))
  | []=>some []
  | (o,s,x) :: ps=>pcons ((evalO e x).map fun v=>(o,s,v)) (partsL e ps)
@[go_sem] theorem partsL_nil:partsL e [] = some []:=(rfl)
@[go_sem] theorem partsL_cons (o s:Nat) (x:HO) (ps:List (Nat × Nat × HO)):partsL e ((o,s,x) :: ps) = pcons ((evalO e x).map fun v=>(o,s,v)) (partsL e ps):=(rfl)
theorem partsL_mapM:∀ ps:List (Nat × Nat × HO),(ps.mapM fun (o,s,x)=>(evalO e x).map fun v=>(o,s,v)) = partsL e ps
  | []=>rfl
  | (o,s,x) :: ps=>by
    rw [List.mapM_cons,partsL_mapM ps]
    simp only [partsL]
    cases evalO e x <;> cases partsL e ps <;> rfl
def kAgg (K:HV→St→Prop) (H:St) (cs:List HV):Prop:=K (.agg cs) H
@[go_sem] theorem kAgg_eq (K:HV→St→Prop) (cs:List HV):kAgg K H cs = K (.agg cs) H:=(rfl)
@[go_sem] theorem wop_build (z:List HV) (ps:List (Nat × Nat × HO)) (K:HV→St→Prop):WOp p e H (.build z ps) K = WX ((partsL e ps).bind (fillParts z)) (kAgg K H):=by
  show WX (stepOp noCall (evalO e) H (.build z ps)) _ = _
  simp only [stepOp]
  rw [partsL_mapM]
  cases partsL e ps with
  | none=>simp [WX]
  | some l=>simp only [Option.bind_some];rw [WX_map];rfl
@[go_sem] theorem fillParts_nil (c:List HV):fillParts c [] = some c:=(rfl)
@[go_sem] theorem fillParts_cons (c:List HV) (o s:Nat) (v:HV) (ps:List (Nat × Nat × HV)):fillParts c ((o,s,v) :: ps) = if v.cells.length = s ∧ o + s ≤ c.length then fillParts (splice c o v.cells) ps else none:=by rw [fillParts]
def rowOf (sz:Nat) (v:HV):Option (List D):=(toDs v.cells).bind fun r=>if r.length = sz then some r else none
@[go_sem] theorem rowOf_eq (sz:Nat) (v:HV):rowOf sz v = (toDs v.cells).bind fun r=>if r.length = sz then some r else none:=(rfl)
def rowcons:Option (List D)→Option (List (List D))→Option (List (List D))
  | some v,some vs=>some (v :: vs)
  | _,_=>none
@[go_sem] theorem rowcons_some (v:List D) (vs:List (List D)):rowcons (some v) (some vs) = some (v :: vs):=(rfl)
def rowsL (e:Env) (sz:Nat):List HO→Option (List (List D))
  | []=>some []
  | x :: xs=>rowcons ((evalO e x).bind (rowOf sz)) (rowsL e sz xs)
@[go_sem] theorem rowsL_nil (sz:Nat):rowsL e sz [] = some []:=(rfl)
@[go_sem] theorem rowsL_cons (sz:Nat) (x:HO) (xs:List HO):rowsL e sz (x :: xs) = rowcons ((evalO e x).bind (rowOf sz)) (rowsL e sz xs):=(rfl)
def kOwn (K:HV→St→Prop) (H:St) (r:List (List D)):Prop:=K (.own r .exact) H
@[go_sem] theorem kOwn_eq (K:HV→St→Prop) (r:List (List D)):kOwn K H r = K (.own r .exact) H:=(rfl)
@[go_sem] theorem wop_buildSlice (sz:Nat) (ps:List HO) (K:HV→St→Prop):WOp p e H (.buildSlice sz ps) K = WX (rowsL e sz ps) (kOwn K H):=by
  show WX (stepOp noCall (evalO e) H (.buildSlice sz ps)) _ = _
  simp only [stepOp]
  have:∀ ps:List HO,(ps.mapM fun x=>match evalO e x with
      | some v=>(toDs v.cells).bind fun r=>if r.length = sz then some r else none
      | none=>none) = rowsL e sz ps:=by
    intro ps
    induction ps with
    | nil=>rfl
    | cons x xs ih=>
      rw [List.mapM_cons,ih]
      simp only [rowsL]
      cases evalO e x with
      | none=>rfl
      | some v=>
        simp only [Option.bind_some,rowOf]
        cases ((toDs v.cells).bind fun r=>if r.length = sz then some r else none) <;> cases rowsL e sz xs <;> rfl
  erw [this ps]
  cases rowsL e sz ps with
  | none=>simp [WX]
  | some l=>simp [WX,kPure,kOwn]
def kFn (K:HV→St→Prop) (H:St) (f:FuncId) (a:List HV) (b:List HV):Prop:=K (.fn f a b) H
def kFn1 (p:HProg) (e:Env) (K:HV→St→Prop) (H:St) (f:FuncId) (xs:List HO) (a:List HV):Prop:=WX (evalL e xs) (kFn K H f a)
@[go_sem] theorem kFn_eq (K:HV→St→Prop) (f:FuncId) (a b:List HV):kFn K H f a b = K (.fn f a b) H:=(rfl)
@[go_sem] theorem kFn1_eq (K:HV→St→Prop) (f:FuncId) (xs:List HO) (a:List HV):kFn1 p e K H f xs a = WX (evalL e xs) (kFn K H f a):=(rfl)
@[go_sem] theorem wop_makeFunc (f:FuncId) (a b:List HO) (K:HV→St→Prop):WOp p e H (.makeFunc f a b) K = WX (evalL e a) (kFn1 p e K H f b):=by
  show WX (stepOp noCall (evalO e) H (.makeFunc f a b)) _ = _
  simp only [stepOp,evalL_mapM]
  cases evalL e a <;> cases hb:evalL e b <;> simp [WX,kFn1,kFn,kPure,hb]
def minmaxV (m:Bool):List HV→Option HV
  | .d (.int k x) :: r=>evalMin m x k r
  | _=>none
@[go_sem] theorem minmaxV_eq (m:Bool) (k:IntKind) (x:Int) (r:List HV):minmaxV m (.d (.int k x) :: r) = evalMin m x k r:=(rfl)
@[go_sem] theorem evalMin_nil (m:Bool) (k:IntKind) (x:Int):evalMin m x k [] = some (.d (.int k x)):=(rfl)
@[go_sem] theorem evalMin_cons (m:Bool) (k j:IntKind) (x y:Int) (r:List HV):evalMin m x k (.d (.int j y) :: r) = if j = k then evalMin m (if m then (if y > x then y else x) else (if y < x then y else x)) k r else none:=(rfl)
def kVal (K:HV→St→Prop) (H:St) (v:HV):Prop:=K v H
@[go_sem] theorem kVal_eq (K:HV→St→Prop) (v:HV):kVal K H v = K v H:=(rfl)
@[go_sem] theorem wop_minmax (m:Bool) (xs:List HO) (K:HV→St→Prop):WOp p e H (.minmax m xs) K = WX ((evalL e xs).bind (minmaxV m)) (kVal K H):=by
  show WX (stepOp noCall (evalO e) H (.minmax m xs)) _ = _
  simp only [stepOp,evalL_mapM]
  cases evalL e xs with
  | none=>simp [WX]
  | some l=>
    simp only [Option.bind_some]
    rcases l with _ | ⟨v,r⟩
    · simp [WX,minmaxV]
    · cases v <;> try (simp [WX,minmaxV];done)
      rename_i x
      cases x <;> try (simp [WX,minmaxV];done)
      simp only [minmaxV]
      rw [WX_map]
      rfl
@[go_sem] theorem evalO_slot (n:Nat):evalO e (.slot n) = e.get n:=(rfl)
@[go_sem] theorem evalO_const (v:HV):evalO e (.const v) = some v:=(rfl)
@[go_sem] theorem evalO_gl (c:List D):evalO e (.gl c) = some (.iref c):=(rfl)
@[go_sem] theorem evalO_ite (c:Prop) [Decidable c] (x y:HO):evalO e (if c then x else y) = if c then evalO e x else evalO e y:=by split <;> rfl
@[go_sem] theorem get_cons (j k:Nat) (v:HV):Env.get ((j,v) :: e) k = if j = k then some v else e.get k:=by rw [Env.get]
@[go_sem] theorem put_some (d:Nat) (v:HV):e.put (some d) v = (d,v) :: e:=(rfl)
@[go_sem] theorem put_none (v:HV):e.put none v = e:=(rfl)
def rcons (k:Nat) (r:Env):Option HV→Env
  | some v=>(k,v) :: r
  | none=>r
@[go_sem] theorem restrict_nil:e.restrict [] = []:=(rfl)
@[go_sem] theorem restrict_cons (k:Nat) (ks:List Nat):e.restrict (k :: ks) = rcons k (e.restrict ks) (e.get k):=by
  rw [Env.restrict];cases e.get k <;> rfl
@[go_sem] theorem rcons_some (k:Nat) (r:Env) (v:HV):rcons k r (some v) = (k,v) :: r:=(rfl)
@[go_sem] theorem rcons_none (k:Nat) (r:Env):rcons k r none = r:=(rfl)
@[go_sem] theorem get_nil (k:Nat):Env.get [] k = none:=(rfl)
@[go_sem] theorem evalL_nil:evalL e [] = some []:=(rfl)
def lcons:Option HV→Option (List HV)→Option (List HV)
  | some v,some vs=>some (v :: vs)
  | _,_=>none
@[go_sem] theorem evalL_cons (x:HO) (xs:List HO):evalL e (x :: xs) = lcons (evalO e x) (evalL e xs):=by
  simp only [evalL];cases evalO e x <;> cases evalL e xs <;> rfl
@[go_sem] theorem lcons_some (v:HV) (vs:List HV):lcons (some v) (some vs) = some (v :: vs):=(rfl)
def wantV (b:Bool):HV→Option Bool
  | .d (.bool c)=>some (c == b)
  | .tup []=>some false
  | _=>none
@[go_sem] theorem wanted_eq (s:Nat) (b:Bool):wanted e (some (s,b)) = (e.get s).bind (wantV b):=by
  simp only [wanted]
  cases e.get s with
  | none=>rfl
  | some v=>cases v with
    | d x=>cases x <;> rfl
    | tup vs=>cases vs <;> rfl
    | _=>rfl
@[go_sem] theorem wantV_true (c:Bool):wantV true (.d (.bool c)) = some c:=by cases c <;> rfl
@[go_sem] theorem wantV_false (c:Bool):wantV false (.d (.bool c)) = some (!c):=by cases c <;> rfl
@[go_sem] theorem wantV_undef (b:Bool):wantV b undefV = some false:=(rfl)
@[go_sem] theorem WIf_not (t:Bool) (A B:Prop):WIf (!t) A B = WIf t B A:=by cases t <;> rfl
@[go_sem] theorem wanted_none:wanted e none = some true:=(rfl)
@[go_sem] theorem fnOf_fn (f:FuncId) (a b:List HV):fnOf (.fn f a b) = some (f,a,b):=(rfl)
@[go_sem] theorem shut_d (x:D):shut (.d x) = .d x:=(rfl)
@[go_sem] theorem shut_own (r:List (List D)) (t:Tip):shut (.own r t) = .d (.sl r):=(rfl)
@[go_sem] theorem shut_ref (a b:Nat):shut (.ref a b) = .ref a b:=(rfl)
@[go_sem] theorem shut_row (a b c d:Nat):shut (.row a b c d) = .row a b c d:=(rfl)
@[go_sem] theorem shut_map (a:Nat):shut (.map a) = .map a:=(rfl)
@[go_sem] theorem shut_iref (a:List D):shut (.iref a) = .iref a:=(rfl)
@[go_sem] theorem shut_fn (f:FuncId) (a b:List HV):shut (.fn f a b) = .fn f a b:=(rfl)
@[go_sem] theorem shut_agg (c:List HV):shut (.agg c) = .agg (c.map shut1):=(rfl)
@[go_sem] theorem shut1_d (x:D):shut1 (.d x) = .d x:=(rfl)
@[go_sem] theorem shut1_own (r:List (List D)) (t:Tip):shut1 (.own r t) = .d (.sl r):=(rfl)
@[go_sem] theorem shut1_ref (a b:Nat):shut1 (.ref a b) = .ref a b:=(rfl)
@[go_sem] theorem shut1_map (a:Nat):shut1 (.map a) = .map a:=(rfl)
@[go_sem] theorem shut1_row (a b c d:Nat):shut1 (.row a b c d) = .row a b c d:=(rfl)
@[go_sem] theorem shutR_d (n:Nat) (x:D):shutR H n (.d x) = .d x:=(rfl)
@[go_sem] theorem shutR_own (n:Nat) (r:List (List D)) (t:Tip):shutR H n (.own r t) = .d (.sl r):=(rfl)
@[go_sem] theorem shutR_agg (n:Nat) (c:List HV):shutR H n (.agg c) = .agg (c.map shut1):=(rfl)
@[go_sem] theorem shutR_ref (n:Nat) (a b:Nat):shutR H n (.ref a b) = .ref a b:=(rfl)
@[go_sem] theorem shutR_map (n:Nat) (a:Nat):shutR H n (.map a) = .map a:=(rfl)
@[go_sem] theorem shutR_fn (n:Nat) (f:FuncId) (a b:List HV):shutR H n (.fn f a b) = .fn f a b:=(rfl)
def frz (v:HV):Option (List (List D))→HV
  | some r=>.d (.sl r)
  | none=>v
@[go_sem] theorem shutR_row (n a b c d:Nat):shutR H n (.row a b c d) = if n ≤ a then frz (.row a b c d) (H.rows (.row a b c d) d) else .row a b c d:=by
  simp only [shutR,shut,shut1,St.freeze]
  split
  · split <;> simp [frz, *]
  · rfl
@[go_sem] theorem frz_some (v:HV) (r:List (List D)):frz v (some r) = .d (.sl r):=(rfl)
@[go_sem] theorem half_d (x:D):half (.d x) = .d x:=(rfl)
@[go_sem] theorem half_own (r:List (List D)) (t s:Nat):half (.own r (.tok t s)) = .d (.sl r):=(rfl)
@[go_sem] theorem half_own_exact (r:List (List D)):half (.own r .exact) = .own r .exact:=(rfl)
@[go_sem] theorem half_agg (c:List HV):half (.agg c) = .agg (c.map half1):=(rfl)
@[go_sem] theorem half1_d (x:D):half1 (.d x) = .d x:=(rfl)
@[go_sem] theorem half1_own (r:List (List D)) (t s:Nat):half1 (.own r (.tok t s)) = .d (.sl r):=(rfl)
@[go_sem] theorem half1_own_exact (r:List (List D)):half1 (.own r .exact) = .own r .exact:=(rfl)
@[go_sem] theorem loose_d (x:D):HV.loose (.d x) = false:=(rfl)
@[go_sem] theorem loose_own (r:List (List D)):HV.loose (.own r .exact) = false:=(rfl)
@[go_sem] theorem loose_tok (r:List (List D)) (t s:Nat):HV.loose (.own r (.tok t s)) = true:=(rfl)
@[go_sem] theorem loose_ref (a b:Nat):HV.loose (.ref a b) = true:=(rfl)
@[go_sem] theorem loose_map (a:Nat):HV.loose (.map a) = true:=(rfl)
@[go_sem] theorem loose_iref (a:List D):HV.loose (.iref a) = false:=(rfl)
@[go_sem] theorem loose_agg (c:List HV):HV.loose (.agg c) = c.any HV.loose1:=(rfl)
@[go_sem] theorem loose1_d (x:D):HV.loose1 (.d x) = false:=(rfl)
@[go_sem] theorem loose1_own (r:List (List D)):HV.loose1 (.own r .exact) = false:=(rfl)
@[go_sem] theorem loose1_tok (r:List (List D)) (t s:Nat):HV.loose1 (.own r (.tok t s)) = true:=(rfl)
@[go_sem] theorem loose1_ref (a b:Nat):HV.loose1 (.ref a b) = true:=(rfl)
@[go_sem] theorem loose1_map (a:Nat):HV.loose1 (.map a) = true:=(rfl)
@[go_sem] theorem loose1_fn (f:FuncId) (a b:List HV):HV.loose1 (.fn f a b) = true:=(rfl)
@[go_sem] theorem under_d (a b:Nat) (x:D):HV.under a b (.d x) = true:=(rfl)
@[go_sem] theorem under_own (a b:Nat) (r:List (List D)):HV.under a b (.own r .exact) = true:=(rfl)
@[go_sem] theorem under_tok (a b:Nat) (r:List (List D)) (t s:Nat):HV.under a b (.own r (.tok t s)) = decide (t < b):=(rfl)
@[go_sem] theorem under_ref (a b c d:Nat):HV.under a b (.ref c d) = decide (c < a):=(rfl)
@[go_sem] theorem under_row (a b c d f g:Nat):HV.under a b (.row c d f g) = decide (c < a):=(rfl)
@[go_sem] theorem under_map (a b c:Nat):HV.under a b (.map c) = decide (c < a):=(rfl)
@[go_sem] theorem under_iref (a b:Nat) (c:List D):HV.under a b (.iref c) = true:=(rfl)
@[go_sem] theorem under_undef (a b:Nat):HV.under a b (.tup []) = true:=(rfl)
@[go_sem] theorem under_agg (a b:Nat) (c:List HV):HV.under a b (.agg c) = c.all (HV.under1 a b):=(rfl)
@[go_sem] theorem under1_d (a b:Nat) (x:D):HV.under1 a b (.d x) = true:=(rfl)
@[go_sem] theorem under_fn (a b:Nat) (f:FuncId) (c:List HV):HV.under a b (.fn f [] c) = c.all fun | .ref o _=>decide (o < a) | _=>false:=(rfl)
@[go_sem] theorem lowOk_none (n:Nat):lowOk n none = true:=(rfl)
@[go_sem] theorem lowOk_some (n a:Nat):lowOk n (some a) = decide (n ≤ a):=(rfl)
@[go_sem] theorem minLow_none (b:Option Nat):minLow none b = b:=(rfl)
@[go_sem] theorem minLow_none' (b:Option Nat):minLow b none = b:=by cases b <;> rfl
@[go_sem] theorem one_one (v:HV):oneOrTup [v] = v:=(rfl)
@[go_sem] theorem one_nil:oneOrTup [] = .tup []:=(rfl)
@[go_sem] theorem one_two (v u:HV) (r:List HV):oneOrTup (v :: u :: r) = .tup (v :: u :: r):=(rfl)
@[go_sem] theorem cells_agg (c:List HV):HV.cells (.agg c) = c:=(rfl)
@[go_sem] theorem cells_d (x:D):HV.cells (.d x) = [.d x]:=(rfl)
@[go_sem] theorem cells_own (r:List (List D)) (t:Tip):HV.cells (.own r t) = [.own r t]:=(rfl)
@[go_sem] theorem cells_ref (a b:Nat):HV.cells (.ref a b) = [.ref a b]:=(rfl)
@[go_sem] theorem cells_map (a:Nat):HV.cells (.map a) = [.map a]:=(rfl)
@[go_sem] theorem cells_fn (f:FuncId) (a b:List HV):HV.cells (.fn f a b) = [.fn f a b]:=(rfl)
@[go_sem] theorem flat1_d (x:D):HV.flat1 (.d x) = true:=(rfl)
@[go_sem] theorem flat1_own (r:List (List D)) (t:Tip):HV.flat1 (.own r t) = true:=(rfl)
@[go_sem] theorem flat1_ref (a b:Nat):HV.flat1 (.ref a b) = true:=(rfl)
@[go_sem] theorem flat1_map (a:Nat):HV.flat1 (.map a) = true:=(rfl)
@[go_sem] theorem flat1_fn (f:FuncId) (a b:List HV):HV.flat1 (.fn f a b) = true:=(rfl)
@[go_sem] theorem isAgg_agg (c:List HV):HV.isAgg (.agg c) = true:=(rfl)
@[go_sem] theorem isAgg_d (x:D):HV.isAgg (.d x) = false:=(rfl)
@[go_sem] theorem isAgg_own (r:List (List D)) (t:Tip):HV.isAgg (.own r t) = false:=(rfl)
@[go_sem] theorem toD_d (x:D):HV.toD (.d x) = some x:=(rfl)
@[go_sem] theorem toD_own (r:List (List D)) (t:Tip):HV.toD (.own r t) = some (.sl r):=(rfl)
@[go_sem] theorem toDs_nil:toDs [] = some []:=(rfl)
def dcons:Option D→Option (List D)→Option (List D)
  | some v,some vs=>some (v :: vs)
  | _,_=>none
@[go_sem] theorem toDs_cons (x:HV) (xs:List HV):toDs (x :: xs) = dcons x.toD (toDs xs):=by
  simp only [toDs];cases x.toD <;> cases toDs xs <;> rfl
@[go_sem] theorem dcons_some (v:D) (vs:List D):dcons (some v) (some vs) = some (v :: vs):=(rfl)
@[go_sem] theorem mkV_true (c:List HV):mkV true c = some (.agg c):=(rfl)
@[go_sem] theorem mkV_false_one (v:HV):mkV false [v] = some v:=(rfl)
@[go_sem] theorem dcells_nil:dcells [] = []:=(rfl)
@[go_sem] theorem dcells_cons (x:D) (xs:List D):dcells (x :: xs) = .d x :: dcells xs:=(rfl)
section
variable {α:Type} (B l:List α) (x:α) (n:Nat)
@[go_sem] theorem at_app:(B ++ l)[B.length + n]? = l[n]?:=by rw [List.getElem?_append_right (by omega)];congr 1;omega
@[go_sem] theorem at_app0:(B ++ l)[B.length]? = l[0]?:=by rw [List.getElem?_append_right (by omega)];congr 1;omega
@[go_sem] theorem at_end:B[B.length]? = none:=by simp
@[go_sem] theorem set_app:(B ++ l).set (B.length + n) x = B ++ l.set n x:=by rw [List.set_append_right _ _ (by omega)];congr 2;omega
@[go_sem] theorem set_app0:(B ++ l).set B.length x = B ++ l.set 0 x:=by rw [List.set_append_right _ _ (by omega)];congr 2;omega
@[go_sem] theorem take_app:(B ++ l).take B.length = B:=by simp
@[go_sem] theorem take_app_n:(B ++ l).take (B.length + n) = B ++ l.take n:=by rw [List.take_append,List.take_of_length_le (by omega)];congr 2;omega
@[go_sem] theorem take_set_app_n (o:Nat) (y:α):(B.set o y ++ l).take (B.length + n) = B.set o y ++ l.take n:=by
  have:=take_app_n (B.set o y) l n
  rwa [List.length_set] at this
@[go_sem] theorem take_all:B.take B.length = B:=by simp
@[go_sem] theorem at_set_app (o:Nat) (y:α):(B.set o y ++ l)[B.length + n]? = l[n]?:=by
  have:=at_app (B.set o y) l n
  rwa [List.length_set] at this
@[go_sem] theorem at_set_app0 (o:Nat) (y:α):(B.set o y ++ l)[B.length]? = l[0]?:=by
  have:=at_app0 (B.set o y) l
  rwa [List.length_set] at this
@[go_sem] theorem set_set_app (o:Nat) (y:α):(B.set o y ++ l).set (B.length + n) x = B.set o y ++ l.set n x:=by
  have:=set_app (B.set o y) l x n
  rwa [List.length_set] at this
@[go_sem] theorem set_set_app0 (o:Nat) (y:α):(B.set o y ++ l).set B.length x = B.set o y ++ l.set 0 x:=by
  have:=set_app0 (B.set o y) l x
  rwa [List.length_set] at this
@[go_sem] theorem take_set_app (o:Nat) (y:α):(B.set o y ++ l).take B.length = B.set o y:=by
  have:=take_app (B.set o y) l
  rwa [List.length_set] at this
@[go_sem] theorem take_set_all (o:Nat) (y:α):(B.set o y).take B.length = B.set o y:=by
  have:=take_all (B.set o y)
  rwa [List.length_set] at this
theorem at_low {o:Nat} (h:o < B.length):(B ++ l)[o]? = B[o]?:=List.getElem?_append_left h
theorem set_low {o:Nat} (h:o < B.length):(B ++ l).set o x = B.set o x ++ l:=List.set_append_left _ _ h
theorem at_set {o:Nat} (h:o < B.length):(B.set o x)[o]? = some x:=by simp [h]
end
@[go_sem] theorem st_alloc (B:List Obj) (T:List Nat) (w:Option Nat) (x:Obj):St.alloc ⟨B,T,w⟩ x = ⟨B ++ [x],T,w⟩:=(rfl)
@[go_sem] theorem st_setObj (B:List Obj) (T:List Nat) (w:Option Nat) (o:Nat) (x:Obj):St.setObj ⟨B,T,w⟩ o x = ⟨B.set o x,T,w⟩:=(rfl)
@[go_sem] theorem st_noteLow_false (B:List Obj) (T:List Nat) (w:Option Nat) (o:Nat):St.noteLow ⟨B,T,w⟩ o false = ⟨B,T,w⟩:=(rfl)
@[go_sem] theorem st_noteLow_true (B:List Obj) (T:List Nat) (w:Option Nat) (o:Nat):St.noteLow ⟨B,T,w⟩ o true = ⟨B,T,minLow w (some o)⟩:=(rfl)
def cellsOf:Option Obj→Option (List HV)
  | some (.cells c)=>some c
  | _=>none
@[go_sem] theorem cellsOf_some (c:List HV):cellsOf (some (.cells c)) = some c:=(rfl)
@[go_sem] theorem st_cells (o:Nat):H.cells? o = cellsOf H.objs[o]?:=by
  unfold St.cells? cellsOf;rfl
def readC (off sz:Nat):Option (List HV)→Option (List HV)
  | some c=>if off + sz ≤ c.length then some ((c.drop off).take sz) else none
  | none=>none
@[go_sem] theorem readC_some (off sz:Nat) (c:List HV):readC off sz (some c) = if off + sz ≤ c.length then some ((c.drop off).take sz) else none:=(rfl)
@[go_sem] theorem read_ref (o off sz:Nat):H.read (.ref o off) sz = readC off sz (H.cells? o):=by
  simp only [St.read];cases H.cells? o <;> rfl
@[go_sem] theorem read_iref (cs:List D) (sz:Nat):H.read (.iref cs) sz = if sz ≤ cs.length then some (dcells (cs.take sz)) else none:=(rfl)
def writeC (H:St) (o off:Nat) (vs:List HV):Option (List HV)→Option St
  | some c=>if off + vs.length ≤ c.length then some ((H.setObj o (.cells (splice c off vs))).noteLow o (vs.any HV.loose1)) else none
  | none=>none
@[go_sem] theorem writeC_some (o off:Nat) (vs c:List HV):writeC H o off vs (some c) = if off + vs.length ≤ c.length then some ((H.setObj o (.cells (splice c off vs))).noteLow o (vs.any HV.loose1)) else none:=(rfl)
@[go_sem] theorem write_ref (o off:Nat) (vs:List HV):H.write (.ref o off) vs = writeC H o off vs (H.cells? o):=by
  simp only [St.write];cases H.cells? o <;> rfl
@[go_sem] theorem rows_sl (r:List (List D)) (sz:Nat):H.rows (.d (.sl r)) sz = if r.all (·.length == sz) then some r else none:=(rfl)
@[go_sem] theorem rows_own (r:List (List D)) (t:Tip) (sz:Nat):H.rows (.own r t) sz = if r.all (·.length == sz) then some r else none:=(rfl)
@[go_sem] theorem rows_str (s:List UInt8):H.rows (.d (.str s)) 1 = some (s.map fun b=>[.int .u8 b.toNat]):=(rfl)
@[go_sem] theorem rows_row (o off len sz:Nat):H.rows (.row o off len sz) sz = (H.cells? o).bind fun c=>if off + len * sz ≤ c.length then (toDs ((c.drop off).take (len * sz))).map (chunks sz len) else none:=by
  simp only [St.rows,if_true];cases H.cells? o <;> rfl
@[go_sem] theorem results_nil:results e H [] = some []:=(rfl)
@[go_sem] theorem results_slot (t:Nat) (rs:List HRes):results e H (.slot t :: rs) = lcons (e.get t) (results e H rs):=by
  simp only [results];cases e.get t <;> cases results e H rs <;> rfl
@[go_sem] theorem results_cell (t sz:Nat) (a:Bool) (rs:List HRes):results e H (.cell t sz a :: rs) = lcons (((e.get t).bind fun x=>H.read x sz).bind (mkV a)) (results e H rs):=by
  simp only [results]
  cases e.get t with
  | none=>rfl
  | some x=>
    simp only [Option.bind_some]
    cases H.read x sz with
    | none=>rfl
    | some cs=>
      simp only [Option.bind_some]
      cases mkV a cs <;> cases results e H rs <;> rfl
@[go_sem] theorem enter_nil (o:List Nat) (i:Nat):enter o i [] = []:=(rfl)
@[go_sem] theorem enter_cons (i:Nat) (v:HV) (vs:List HV):enter [] i (v :: vs) = (i,shut v) :: enter [] (i + 1) vs:=(rfl)
@[go_sem] theorem wend_normal (hf:HFun) (H0:St) (r:HV) (H':St):WEnd hf H0 r H' .normal e H = WX (results e H hf.res) fun vs=>finish hf.pol H0 vs H = (r,H'):=(rfl)
@[go_sem] theorem wend_ret (hf:HFun) (H0:St) (r:HV) (H':St):WEnd hf H0 r H' .ret e H = WX (results e H hf.res) fun vs=>finish hf.pol H0 vs H = (r,H'):=(rfl)
@[go_sem] theorem wend2_normal (res:List HRes) (pol:RetPol) (H0:St) (r:HV) (H':St):WEnd2 res pol H0 r H' .normal e H = WX (results e H res) fun vs=>finish pol H0 vs H = (r,H'):=(rfl)
@[go_sem] theorem wend2_ret (res:List HRes) (pol:RetPol) (H0:St) (r:HV) (H':St):WEnd2 res pol H0 r H' .ret e H = WX (results e H res) fun vs=>finish pol H0 vs H = (r,H'):=(rfl)
@[go_sem] theorem finish_shut (h:St) (vs:List HV):finish .shut h vs H = if lowOk h.objs.length H.low && (vs.map (shutR H h.objs.length)).all (fun v=>!v.loose)
    then (oneOrTup (vs.map (shutR H h.objs.length)),{ objs:=H.objs.take h.objs.length,tips:=H.tips.take h.tips.length,low:=h.low })
    else (oneOrTup vs,{ H with low:=minLow h.low H.low }):=rfl
@[go_sem] theorem finish_half (h:St) (vs:List HV):finish .half h vs H = if lowOk h.objs.length H.low && (vs.map half).all (fun v=>!v.loose)
    then (oneOrTup (vs.map half),{ objs:=H.objs.take h.objs.length,tips:=H.tips.take h.tips.length,low:=h.low })
    else (oneOrTup vs,{ H with low:=minLow h.low H.low }):=rfl
attribute [go_sem] WG_true WG_false WG_not WX_some WX_none WX_map WX_if WIf_true WIf_false List.map_cons List.map_nil List.all_cons List.all_nil List.any_cons List.any_nil Bool.not_false Bool.not_true Bool.and_true Bool.true_and Bool.and_false Bool.false_and Bool.or_false Bool.false_or Bool.or_true Bool.true_or
  Nat.lt_add_right_iff_pos Nat.add_lt_add_iff_left Nat.le_add_right Nat.add_le_add_iff_left Nat.lt_irrefl
  List.append_assoc List.cons_append List.nil_append List.append_nil List.length_append List.length_cons List.length_nil Nat.zero_add Nat.add_zero List.getElem?_cons_zero List.getElem?_cons_succ List.set_cons_zero List.set_cons_succ
  List.drop_zero List.drop_succ_cons List.take_succ_cons List.take_zero List.take_nil List.drop_nil if_true if_false Bool.false_eq_true ne_eq not_true_eq_false not_false_eq_true Option.map_some Option.map_none Option.bind_some Option.bind_none
  beq_self_eq_true stepOp evalBin evalUn evalBinB evalBinP splice Nat.le_refl Nat.not_lt_zero and_true true_and and_false false_and List.length_set List.set_set
@[go_sem] theorem d_move (x:HO):(HOp.move x).isAlloc = false ∧ (HOp.move x).plain = true ∧ (HOp.move x).quiet = false:=⟨rfl,rfl,rfl⟩
@[go_sem] theorem d_nilTok:(HOp.nilTok).isAlloc = false ∧ (HOp.nilTok).plain = false ∧ (HOp.nilTok).quiet = false:=⟨rfl,rfl,rfl⟩
@[go_sem] theorem d_pick (c a b:HO):(HOp.pick c a b).isAlloc = false ∧ (HOp.pick c a b).plain = true ∧ (HOp.pick c a b).quiet = false:=⟨rfl,rfl,rfl⟩
@[go_sem] theorem d_alloc (z:List HV):(HOp.alloc z).isAlloc = true ∧ (HOp.alloc z).plain = false ∧ (HOp.alloc z).quiet = false:=⟨rfl,rfl,rfl⟩
@[go_sem] theorem d_box (sz:Nat) (x:HO):(HOp.box sz x).isAlloc = false ∧ (HOp.box sz x).plain = false ∧ (HOp.box sz x).quiet = false:=⟨rfl,rfl,rfl⟩
@[go_sem] theorem d_build (z:List HV) (ps:List (Nat × Nat × HO)):(HOp.build z ps).isAlloc = false ∧ (HOp.build z ps).plain = true ∧ (HOp.build z ps).quiet = false:=⟨rfl,rfl,rfl⟩
@[go_sem] theorem d_buildSlice (sz:Nat) (ps:List HO):(HOp.buildSlice sz ps).isAlloc = false ∧ (HOp.buildSlice sz ps).plain = true ∧ (HOp.buildSlice sz ps).quiet = false:=⟨rfl,rfl,rfl⟩
@[go_sem] theorem d_load (sz:Nat) (a:Bool) (x:HO):(HOp.load sz a x).isAlloc = false ∧ (HOp.load sz a x).plain = false ∧ (HOp.load sz a x).quiet = true:=⟨rfl,rfl,rfl⟩
@[go_sem] theorem d_store (sz:Nat) (x v:HO):(HOp.store sz x v).isAlloc = false ∧ (HOp.store sz x v).plain = false ∧ (HOp.store sz x v).quiet = false:=⟨rfl,rfl,rfl⟩
@[go_sem] theorem d_nilCheck (x:HO):(HOp.nilCheck x).isAlloc = false ∧ (HOp.nilCheck x).plain = true ∧ (HOp.nilCheck x).quiet = false:=⟨rfl,rfl,rfl⟩
@[go_sem] theorem d_bin (op:BinOp) (x y:HO):(HOp.bin op x y).isAlloc = false ∧ (HOp.bin op x y).plain = true ∧ (HOp.bin op x y).quiet = false:=⟨rfl,rfl,rfl⟩
@[go_sem] theorem d_binB (n:Bool) (x y:HO):(HOp.binB n x y).isAlloc = false ∧ (HOp.binB n x y).plain = true ∧ (HOp.binB n x y).quiet = false:=⟨rfl,rfl,rfl⟩
@[go_sem] theorem d_binP (n:Bool) (x y:HO):(HOp.binP n x y).isAlloc = false ∧ (HOp.binP n x y).plain = true ∧ (HOp.binP n x y).quiet = false:=⟨rfl,rfl,rfl⟩
@[go_sem] theorem d_eqAgg (n:Bool) (ks:List LK) (x y:HO):(HOp.eqAgg n ks x y).isAlloc = false ∧ (HOp.eqAgg n ks x y).plain = true ∧ (HOp.eqAgg n ks x y).quiet = false:=⟨rfl,rfl,rfl⟩
@[go_sem] theorem d_un (op:UnOp) (x:HO):(HOp.un op x).isAlloc = false ∧ (HOp.un op x).plain = true ∧ (HOp.un op x).quiet = false:=⟨rfl,rfl,rfl⟩
@[go_sem] theorem d_convInt (k:IntKind) (x:HO):(HOp.convInt k x).isAlloc = false ∧ (HOp.convInt k x).plain = true ∧ (HOp.convInt k x).quiet = false:=⟨rfl,rfl,rfl⟩
@[go_sem] theorem d_convBS (x:HO):(HOp.convBS x).isAlloc = false ∧ (HOp.convBS x).plain = false ∧ (HOp.convBS x).quiet = true:=⟨rfl,rfl,rfl⟩
@[go_sem] theorem d_convSB (x:HO):(HOp.convSB x).isAlloc = false ∧ (HOp.convSB x).plain = true ∧ (HOp.convSB x).quiet = false:=⟨rfl,rfl,rfl⟩
@[go_sem] theorem d_convSS (x:HO):(HOp.convSS x).isAlloc = false ∧ (HOp.convSS x).plain = false ∧ (HOp.convSS x).quiet = false:=⟨rfl,rfl,rfl⟩
@[go_sem] theorem d_makeFunc (f:FuncId) (a b:List HO):(HOp.makeFunc f a b).isAlloc = false ∧ (HOp.makeFunc f a b).plain = true ∧ (HOp.makeFunc f a b).quiet = false:=⟨rfl,rfl,rfl⟩
@[go_sem] theorem d_makeMap (a b:Bool) (h:Option HO):(HOp.makeMap a b h).isAlloc = false ∧ (HOp.makeMap a b h).plain = false ∧ (HOp.makeMap a b h).quiet = false:=⟨rfl,rfl,rfl⟩
@[go_sem] theorem d_makeSlice (sz:Nat) (z:List HV) (l c:HO):(HOp.makeSlice sz z l c).isAlloc = false ∧ (HOp.makeSlice sz z l c).plain = false ∧ (HOp.makeSlice sz z l c).quiet = false:=⟨rfl,rfl,rfl⟩
@[go_sem] theorem d_sliceStr (x:HO) (l h:Option HO):(HOp.sliceStr x l h).isAlloc = false ∧ (HOp.sliceStr x l h).plain = true ∧ (HOp.sliceStr x l h).quiet = false:=⟨rfl,rfl,rfl⟩
@[go_sem] theorem d_sliceSl (sz:Nat) (x:HO) (l h:Option HO):(HOp.sliceSl sz x l h).isAlloc = false ∧ (HOp.sliceSl sz x l h).plain = true ∧ (HOp.sliceSl sz x l h).quiet = false:=⟨rfl,rfl,rfl⟩
@[go_sem] theorem d_sliceArr (n sz:Nat) (x:HO) (l h:Option HO):(HOp.sliceArr n sz x l h).isAlloc = false ∧ (HOp.sliceArr n sz x l h).plain = true ∧ (HOp.sliceArr n sz x l h).quiet = false:=⟨rfl,rfl,rfl⟩
@[go_sem] theorem d_fieldAddr (o:Nat) (x:HO):(HOp.fieldAddr o x).isAlloc = false ∧ (HOp.fieldAddr o x).plain = true ∧ (HOp.fieldAddr o x).quiet = false:=⟨rfl,rfl,rfl⟩
@[go_sem] theorem d_field (o sz:Nat) (a:Bool) (x:HO):(HOp.field o sz a x).isAlloc = false ∧ (HOp.field o sz a x).plain = true ∧ (HOp.field o sz a x).quiet = false:=⟨rfl,rfl,rfl⟩
@[go_sem] theorem d_indexAddrArr (n sz:Nat) (x i:HO):(HOp.indexAddrArr n sz x i).isAlloc = false ∧ (HOp.indexAddrArr n sz x i).plain = true ∧ (HOp.indexAddrArr n sz x i).quiet = false:=⟨rfl,rfl,rfl⟩
@[go_sem] theorem d_indexAddrSl (sz:Nat) (x i:HO):(HOp.indexAddrSl sz x i).isAlloc = false ∧ (HOp.indexAddrSl sz x i).plain = true ∧ (HOp.indexAddrSl sz x i).quiet = false:=⟨rfl,rfl,rfl⟩
@[go_sem] theorem d_indexStr (x i:HO):(HOp.indexStr x i).isAlloc = false ∧ (HOp.indexStr x i).plain = true ∧ (HOp.indexStr x i).quiet = false:=⟨rfl,rfl,rfl⟩
@[go_sem] theorem d_lookup (z:List D) (a b:Bool) (ks:List LK) (m k:HO) (ok:Bool):(HOp.lookup z a b ks m k ok).isAlloc = false ∧ (HOp.lookup z a b ks m k ok).plain = false ∧ (HOp.lookup z a b ks m k ok).quiet = true:=⟨rfl,rfl,rfl⟩
@[go_sem] theorem d_mapUpdate (a b:Bool) (ks:List LK) (m k v:HO):(HOp.mapUpdate a b ks m k v).isAlloc = false ∧ (HOp.mapUpdate a b ks m k v).plain = false ∧ (HOp.mapUpdate a b ks m k v).quiet = false:=⟨rfl,rfl,rfl⟩
@[go_sem] theorem d_mapEntry (z:List D) (a b:Bool) (ks:List LK) (m k:HO):(HOp.mapEntry z a b ks m k).isAlloc = false ∧ (HOp.mapEntry z a b ks m k).plain = false ∧ (HOp.mapEntry z a b ks m k).quiet = false:=⟨rfl,rfl,rfl⟩
@[go_sem] theorem d_entryStore (a:Bool) (m s v:HO):(HOp.entryStore a m s v).isAlloc = false ∧ (HOp.entryStore a m s v).plain = false ∧ (HOp.entryStore a m s v).quiet = false:=⟨rfl,rfl,rfl⟩
@[go_sem] theorem d_rangeStr (x:HO):(HOp.rangeStr x).isAlloc = false ∧ (HOp.rangeStr x).plain = false ∧ (HOp.rangeStr x).quiet = false:=⟨rfl,rfl,rfl⟩
@[go_sem] theorem d_nextStr (x:HO):(HOp.nextStr x).isAlloc = false ∧ (HOp.nextStr x).plain = false ∧ (HOp.nextStr x).quiet = false:=⟨rfl,rfl,rfl⟩
@[go_sem] theorem d_extract (x:HO) (i:Nat):(HOp.extract x i).isAlloc = false ∧ (HOp.extract x i).plain = true ∧ (HOp.extract x i).quiet = false:=⟨rfl,rfl,rfl⟩
@[go_sem] theorem d_lenC (n:Nat):(HOp.lenC n).isAlloc = false ∧ (HOp.lenC n).plain = true ∧ (HOp.lenC n).quiet = false:=⟨rfl,rfl,rfl⟩
@[go_sem] theorem d_len (k:LK) (x:HO):(HOp.len k x).isAlloc = false ∧ (HOp.len k x).plain = false ∧ (HOp.len k x).quiet = true:=⟨rfl,rfl,rfl⟩
@[go_sem] theorem d_append (sz:Nat) (x y:HO):(HOp.append sz x y).isAlloc = false ∧ (HOp.append sz x y).plain = false ∧ (HOp.append sz x y).quiet = false:=⟨rfl,rfl,rfl⟩
@[go_sem] theorem d_copy (sz:Nat) (x y:HO):(HOp.copy sz x y).isAlloc = false ∧ (HOp.copy sz x y).plain = false ∧ (HOp.copy sz x y).quiet = false:=⟨rfl,rfl,rfl⟩
@[go_sem] theorem d_delete (a:Bool) (ks:List LK) (m k:HO):(HOp.delete a ks m k).isAlloc = false ∧ (HOp.delete a ks m k).plain = false ∧ (HOp.delete a ks m k).quiet = false:=⟨rfl,rfl,rfl⟩
@[go_sem] theorem d_minmax (m:Bool) (xs:List HO):(HOp.minmax m xs).isAlloc = false ∧ (HOp.minmax m xs).plain = true ∧ (HOp.minmax m xs).quiet = false:=⟨rfl,rfl,rfl⟩
@[go_sem] theorem d_callF (f:FuncId) (as:List HO):(HOp.callF f as).isAlloc = false ∧ (HOp.callF f as).plain = false ∧ (HOp.callF f as).quiet = false:=⟨rfl,rfl,rfl⟩
@[go_sem] theorem d_callV (x:HO) (as:List HO):(HOp.callV x as).isAlloc = false ∧ (HOp.callV x as).plain = false ∧ (HOp.callV x as).quiet = false:=⟨rfl,rfl,rfl⟩
@[go_sem] theorem allocFree_nil:allocFree [] = true:=(rfl)
@[go_sem] theorem allocFree_cons (d:Option Nat) (op:HOp) (g:Option (Nat × Bool)) (u:List Nat) (os:List HOper):allocFree (⟨d,op,g,u⟩ :: os) = ((!op.isAlloc || g.isNone) && allocFree os):=(rfl)
def kWD (p:HProg) (ops:List HOper) (keep:List Nat) (K:Out→Env→St→Prop) (e:Env) (H:St):Prop:=WD p ops 0 [] [] (kReg keep K) e H
@[go_sem] theorem kWD_eq (ops:List HOper) (keep:List Nat):kWD p ops keep K e H = WD p ops 0 [] [] (kReg keep K) e H:=(rfl)
@[go_sem] theorem wc_draw (ops:List HOper) (keep:List Nat):WC p (.region true ops keep) K e H = (allocFree ops = true ∧ WA p ops (kWD p ops keep K) e H):=by rw [WC];rfl
@[go_sem] theorem wa_nil (K:Env→St→Prop):WA p [] K e H = K e H:=(rfl)
@[go_sem] theorem wa_alloc (d:Option Nat) (z:List HV) (g:Option (Nat × Bool)) (u:List Nat) (os:List HOper) (K:Env→St→Prop):WA p (⟨d,.alloc z,g,u⟩ :: os) K e H = WA p os K (e.put d (.ref H.objs.length 0)) (H.alloc (.cells z)):=(rfl)
@[go_sem] theorem wa_skip (d:Option Nat) (op:HOp) (g:Option (Nat × Bool)) (u:List Nat) (os:List HOper) (K:Env→St→Prop) (h:op.isAlloc = false):WA p (⟨d,op,g,u⟩ :: os) K e H = WA p os K e H:=by
  cases op <;> first | (cases h;done) | rfl
def kD1 (p:HProg) (o:HOper) (os:List HOper) (i:Nat) (sn:List (Nat × St)) (pe:List Look) (K:Env→St→Prop) (e:Env) (H:St) (v:HV) (H':St):Prop:=
  WIf o.op.plain (WD p os (i + 1) sn pe K (e.put o.dst v) H)
            (WIf o.op.quiet
              (snapOk e o v sn ∧ WD p os (i + 1) sn (if o.un.isEmpty then pe else ⟨i,e,o,v⟩ :: pe) K (e.put o.dst v) H)
              (pendOk o H' pe ∧ WD p os (i + 1) (if o.un.isEmpty then sn else (i,H) :: sn) pe K (e.put o.dst v) H'))
@[go_sem] theorem kD1_eq (d:Option Nat) (op:HOp) (g:Option (Nat × Bool)) (u:List Nat) (os:List HOper) (i:Nat) (sn:List (Nat × St)) (pe:List Look) (K:Env→St→Prop) (v:HV) (H':St):kD1 p ⟨d,op,g,u⟩ os i sn pe K e H v H' =
  WIf op.plain (WD p os (i + 1) sn pe K (e.put d v) H)
            (WIf op.quiet
              (snapOk e ⟨d,op,g,u⟩ v sn ∧ WD p os (i + 1) sn (if u.isEmpty then pe else ⟨i,e,⟨d,op,g,u⟩,v⟩ :: pe) K (e.put d v) H)
              (pendOk ⟨d,op,g,u⟩ H' pe ∧ WD p os (i + 1) (if u.isEmpty then sn else (i,H) :: sn) pe K (e.put d v) H')):=(rfl)
def kD (p:HProg) (o:HOper) (os:List HOper) (i:Nat) (sn:List (Nat × St)) (pe:List Look) (K:Env→St→Prop) (e:Env) (H:St) (t:Bool):Prop:=
  @WG t ⟨WOp p e H o.op (kD1 p o os i sn pe K e H)⟩ ⟨WD p os (i + 1) sn pe K (e.put o.dst undefV) H⟩
@[go_sem] theorem kD_eq (d:Option Nat) (op:HOp) (g:Option (Nat × Bool)) (u:List Nat) (os:List HOper) (i:Nat) (sn:List (Nat × St)) (pe:List Look) (K:Env→St→Prop) (t:Bool):kD p ⟨d,op,g,u⟩ os i sn pe K e H t =
  @WG t ⟨WOp p e H op (kD1 p ⟨d,op,g,u⟩ os i sn pe K e H)⟩ ⟨WD p os (i + 1) sn pe K (e.put d undefV) H⟩:=(rfl)
@[go_sem] theorem wd_nil (i:Nat) (sn:List (Nat × St)) (pe:List Look) (K:Env→St→Prop):WD p [] i sn pe K e H = K e H:=(rfl)
@[go_sem] theorem wd_cons (d:Option Nat) (op:HOp) (g:Option (Nat × Bool)) (u:List Nat) (os:List HOper) (i:Nat) (sn:List (Nat × St)) (pe:List Look) (K:Env→St→Prop):WD p (⟨d,op,g,u⟩ :: os) i sn pe K e H =
  WIf op.isAlloc (WD p os (i + 1) sn pe K e H) (WX (wanted e g) (kD p ⟨d,op,g,u⟩ os i sn pe K e H)):=by rw [WD];rfl
@[go_sem] theorem snapOk_nil (o:HOper) (v:HV):snapOk e o v [] = True:=(rfl)
@[go_sem] theorem pendOk_nil (o:HOper):pendOk o H [] = True:=(rfl)
@[go_sem] theorem snapOk_cons (d:Option Nat) (op:HOp) (g:Option (Nat × Bool)) (u:List Nat) (v:HV) (j:Nat) (H0:St) (sn:List (Nat × St)):snapOk e ⟨d,op,g,u⟩ v ((j,H0) :: sn) = (WIf (u.contains j) (WX (stepOp noCall (evalO e) H0 op) fun r=>r.1 = v) True ∧ snapOk e ⟨d,op,g,u⟩ v sn):=(rfl)
@[go_sem] theorem pendOk_cons (d:Option Nat) (op:HOp) (g:Option (Nat × Bool)) (u:List Nat) (j:Nat) (e0:Env) (d0:Option Nat) (op0:HOp) (g0:Option (Nat × Bool)) (u0:List Nat) (v0:HV) (pe:List Look) :
  pendOk ⟨d,op,g,u⟩ H (⟨j,e0,⟨d0,op0,g0,u0⟩,v0⟩ :: pe) = (WIf (u.contains j) (WX (stepOp noCall (evalO e0) H op0) fun r=>r.1 = v0) True ∧ pendOk ⟨d,op,g,u⟩ H pe):=(rfl)
attribute [go_sem] Option.isNone_none Option.isNone_some List.isEmpty_nil List.isEmpty_cons List.contains_cons List.contains_nil
def appendV (H:St) (sz:Nat) (a:HV) (ys:List (List D)):Option (HV × St):=
  match a with
  | .own rows t=>if ys = [] then some (.own rows t,H) else
    if rows.all (·.length == sz) && decide (rows.length + ys.length ≤ roomN) then
      match t with
      | .exact=>some (.own (rows ++ ys) (.tok H.tips.length sz),{ H with tips:=H.tips ++ [rows.length + ys.length] })
      | .tok k s=>match H.tips[k]? with
        | some n=>if n = rows.length ∧ (s = sz ∨ s = 0) then some (.own (rows ++ ys) (.tok k sz),{ H with tips:=H.tips.set k (rows.length + ys.length) }) else none
        | none=>none
    else none
  | .d (.sl rows)=>if ys = [] then some (.d (.sl rows),H) else none
  | _=>none
def kApp (e:Env) (H:St) (sz:Nat) (y:HO) (K:HV→St→Prop) (a:HV):Prop:=WX ((evalO e y).bind fun b=>H.rows b sz) fun ys=>WX (appendV H sz a ys) (kPure K)
def kApp1 (H:St) (sz:Nat) (K:HV→St→Prop) (a:HV) (ys:List (List D)):Prop:=WX (appendV H sz a ys) (kPure K)
@[go_sem] theorem kApp_eq (sz:Nat) (y:HO) (K:HV→St→Prop) (a:HV):kApp e H sz y K a = WX ((evalO e y).bind fun b=>H.rows b sz) (kApp1 H sz K a):=(rfl)
@[go_sem] theorem kApp1_eq (sz:Nat) (K:HV→St→Prop) (a:HV) (ys:List (List D)):kApp1 H sz K a ys = WX (appendV H sz a ys) (kPure K):=(rfl)
@[go_sem] theorem wop_append (sz:Nat) (x y:HO) (K:HV→St→Prop):WOp p e H (.append sz x y) K = WX (evalO e x) (kApp e H sz y K):=by
  show WX (stepOp noCall (evalO e) H (.append sz x y)) _ = _
  simp only [stepOp]
  cases evalO e x with
  | none=>simp [WX]
  | some a=>
    rw [WX_some]
    unfold kApp
    cases evalO e y with
    | none=>simp [WX]
    | some b=>
      simp only [Option.bind_some]
      cases H.rows b sz with
      | none=>simp [WX]
      | some ys=>rw [WX_some];unfold appendV kPure;rfl
def tipT (T:List Nat) (sz:Nat) (rows:List (List D)):Tip:=if rows = [] then .exact else .tok T.length sz
def tipL (T:List Nat) (rows:List (List D)):List Nat:=if rows = [] then T else T ++ [rows.length]
theorem tip_nil (T:List Nat) (sz:Nat):tipT T sz [] = .exact:=rfl
theorem tipL_nil (T:List Nat):tipL T [] = T:=rfl
@[go_sem] theorem tipL_take (T:List Nat) (rows:List (List D)):(tipL T rows).take T.length = T:=by
  unfold tipL;split <;> simp
@[go_sem] theorem under_tip (n sz:Nat) (T:List Nat) (rows:List (List D)):HV.under n (tipL T rows).length (.own rows (tipT T sz rows)) = true:=by
  unfold tipL tipT
  split
  · rfl
  · simp [HV.under,HV.under1]
theorem appendV_own {B:List Obj} {T:List Nat} {lw:Option Nat} {sz:Nat} {rows ys:List (List D)} (hy:ys ≠ []) (ha:rows.all (·.length == sz) = true) (hn:rows.length + ys.length ≤ roomN) :
    appendV ⟨B,tipL T rows,lw⟩ sz (.own rows (tipT T sz rows)) ys = some (.own (rows ++ ys) (tipT T sz (rows ++ ys)),⟨B,tipL T (rows ++ ys),lw⟩):=by
  have h1:rows ++ ys ≠ []:=by simp [hy]
  simp only [appendV,hy,if_false,ha,hn,decide_true,Bool.true_and,if_true]
  simp only [tipT,tipL,if_neg h1]
  by_cases h2:rows = []
  · subst h2;simp
  · simp [h2]
def kRound (I:Nat→Env→St→Prop) (n:Nat) (H:St) (keep:List Nat) (K:Out→Env→St→Prop):Out→Env→St→Prop
  | .normal,e',H'=>∃ k,k < n ∧ I k (closeRound H keep e' H').1 (closeRound H keep e' H').2
  | o,e',H'=>K o e' { H' with low:=minLow H.low H'.low }
@[go_sem] theorem kRound_normal (I:Nat→Env→St→Prop) (n:Nat) (H0:St) (keep:List Nat):kRound I n H0 keep K .normal e H = ∃ k,k < n ∧ I k (closeRound H0 keep e H).1 (closeRound H0 keep e H).2:=(rfl)
@[go_sem] theorem kRound_exit (I:Nat→Env→St→Prop) (n:Nat) (H0:St) (keep:List Nat) (i:Nat):kRound I n H0 keep K (.exit i) e H = K (.exit i) e { H with low:=minLow H0.low H.low }:=(rfl)
@[go_sem] theorem kRound_ret (I:Nat→Env→St→Prop) (n:Nat) (H0:St) (keep:List Nat):kRound I n H0 keep K .ret e H = K .ret e { H with low:=minLow H0.low H.low }:=(rfl)
theorem loop_I {keep:List Nat} {body:HC} (I:Nat→Env→St→Prop) (n:Nat) (h0:I n e H)
    (h:∀ n e H,I n e H→WC p body (kRound I n H keep K) (e.restrict keep) { H with low:=none }):WC p (.loop keep body) K e H:=by
  refine loop_of I n h0 fun n e H hI=>WC.mono (fun o e' H' ho=>?_) (h n e H hI)
  cases o <;> exact ho
@[go_sem] theorem close_eq (H0:St) (keep:List Nat):closeRound H0 keep e H = if lowOk H0.objs.length H.low && (e.restrict keep).all (fun p=>p.2.under H0.objs.length H.tips.length)
    then (e.restrict keep,{ objs:=H.objs.take H0.objs.length,tips:=H.tips,low:=H0.low }) else (e.restrict keep,{ H with low:=minLow H0.low H.low }):=rfl
theorem wrap64 {n:Int} (h:-9223372036854775808 ≤ n) (h':n ≤ 9223372036854775807):IntKind.i64.wrap n = n:=by
  show (if (true && decide (n % 18446744073709551616 ≥ 9223372036854775808)) = true then n % 18446744073709551616 - 18446744073709551616 else n % 18446744073709551616) = n
  simp only [Bool.true_and,decide_eq_true_eq]
  split <;> omega
theorem wrap32 {n:Int} (h:-2147483648 ≤ n) (h':n ≤ 2147483647):IntKind.i32.wrap n = n:=by
  show (if (true && decide (n % 4294967296 ≥ 2147483648)) = true then n % 4294967296 - 4294967296 else n % 4294967296) = n
  simp only [Bool.true_and,decide_eq_true_eq]
  split <;> omega
end
end Am
