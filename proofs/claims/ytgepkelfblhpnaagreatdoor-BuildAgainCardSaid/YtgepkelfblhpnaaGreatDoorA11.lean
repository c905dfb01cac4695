/- A part of the proof of BuildAgain: no condition of its own. Whence: AmDrawA, AmDrawB. -/
import Derived.Test.YtgepkelfblhpnaaGreatDoorA10
set_option linter.all false
namespace Am
open Go
inductive Reach (ops:Array Oper):Nat→Nat→Prop
  | edge {i:Nat} {o:Oper} {e:Edge}:ops[i]? = some o→e ∈ o.after.toList→Region.binds .any e = true→Reach ops i e.on
  | step {i k:Nat} {o:Oper} {e:Edge}:ops[i]? = some o→e ∈ o.after.toList→Region.binds .any e = true→Reach ops e.on k→Reach ops i k
def Closed (ops:Array Oper) (S:Nat→Bool):Prop:=
  ∀ (i:Nat) (o:Oper) (e:Edge),S i = true→ops[i]? = some o→e ∈ o.after.toList→Region.binds .any e = true→S e.on = true
theorem Closed.reach {ops:Array Oper} {S:Nat→Bool} (h:Closed ops S) {i j:Nat} (hr:Reach ops i j):S i = true→S j = true:=by
  induction hr with
  | edge h1 h2 h3=>exact fun hi=>h _ _ _ hi h1 h2 h3
  | step h1 h2 h3 _ ih=>exact fun hi=>ih (h _ _ _ hi h1 h2 h3)
def bitsOf (acc:Array Nat) (o:Oper):Nat:=o.after.foldl (fun s e=>if Region.binds .any e then s ||| 2 ^ e.on ||| acc.getD e.on 0 else s) 0
theorem bits_reach {ops:Array Oper} {i:Nat} {o:Oper} (ho:ops[i]? = some o) {acc:Array Nat} (hacc:∀ q p,((acc.getD q 0).testBit p) = true→Reach ops q p) :
    ∀ (es:List Edge) (s:Nat),(∀ e ∈ es,e ∈ o.after.toList)→(∀ p,s.testBit p = true→Reach ops i p) →
      ∀ p,(es.foldl (fun s e=>if Region.binds .any e then s ||| 2 ^ e.on ||| acc.getD e.on 0 else s) s).testBit p = true→Reach ops i p
  | [],s,_,hs,p,h=>hs p h
  | e :: es,s,hes,hs,p,h=>by
    refine bits_reach ho hacc es _ (fun x hx=>hes x (by simp [hx])) ?_ p h
    intro p hp
    by_cases hb:Region.binds .any e = true
    · simp only [hb,if_true] at hp
      simp only [Nat.testBit_or,Bool.or_eq_true] at hp
      rcases hp with (hp | hp) | hp
      · exact hs p hp
      · rw [Nat.testBit_two_pow] at hp
        have hp':e.on = p:=by simpa using hp
        rw [← hp']
        exact .edge ho (hes e (by simp)) hb
      · exact .step ho (hes e (by simp)) hb (hacc _ _ hp)
    · simp only [hb,Bool.false_eq_true,if_false] at hp
      exact hs p hp
theorem before_go {ops:Array Oper}:∀ (l:List Oper) (pre:List Oper) (acc:Array Nat),ops.toList = pre ++ l→acc.size = pre.length →
    (∀ q p,((acc.getD q 0).testBit p) = true→Reach ops q p)→∀ q p,(((l.foldl (fun acc o=>acc.push (bitsOf acc o)) acc).getD q 0).testBit p) = true→Reach ops q p
  | [],_,acc,_,_,hacc,q,p,h=>hacc q p h
  | o :: l,pre,acc,hl,hs,hacc,q,p,h=>by
    have ho:ops[acc.size]? = some o:=by
      rw [← Array.getElem?_toList,hl,hs,List.getElem?_append_right (Nat.le_refl _)]
      simp
    refine before_go l (pre ++ [o]) (acc.push (bitsOf acc o)) (by rw [hl];simp) (by simp [hs]) ?_ q p h
    intro q p hp
    by_cases hq:q = acc.size
    · subst hq
      have e1:(acc.push (bitsOf acc o)).getD acc.size 0 = bitsOf acc o:=by simp [Array.getD]
      rw [e1] at hp
      unfold bitsOf at hp
      rw [← Array.foldl_toList] at hp
      exact bits_reach ho hacc o.after.toList 0 (fun _ h=>h) (fun p h=>by simp at h) p hp
    · have e1:(acc.push (bitsOf acc o)).getD q 0 = acc.getD q 0:=by
        simp only [Array.getD_eq_getD_getElem?,Array.getElem?_push]
        rw [if_neg hq]
      rw [e1] at hp
      exact hacc q p hp
theorem before_reach {ops:Array Oper} {q p:Nat} (h:((Region.before ops).getD q 0).testBit p = true):Reach ops q p:=by
  have e:Region.before ops = ops.toList.foldl (fun acc o=>acc.push (bitsOf acc o)) #[]:=by
    rw [Array.foldl_toList];rfl
  rw [e] at h
  exact before_go ops.toList [] #[] rfl rfl (fun q p h=>by simp at h) q p h
theorem ordered_reach {ops:Array Oper} {i j:Nat} (h:ordered (Region.before ops) i j = true) (hlt:i < j):Reach ops j i:=by
  unfold ordered at h
  rw [Nat.max_eq_right (by omega),Nat.min_eq_left (by omega)] at h
  exact before_reach h
theorem ordered_comm (bf:Array Nat) (i j:Nat):ordered bf i j = ordered bf j i:=by
  unfold ordered
  rw [Nat.max_comm,Nat.min_comm]
theorem Tip.eq_of_beq {a b:Tip} (h:a.beq b = true):a = b:=by
  cases a <;> cases b <;> simp_all [Tip.beq]
mutual
theorem D.eq_of_beq:∀ {a b:D},D.beq a b = true→a = b
  | .bool a,.bool b,h=>by simp only [D.beq,beq_iff_eq] at h;rw [h]
  | .int j a,.int k b,h=>by simp only [D.beq,Bool.and_eq_true,decide_eq_true_eq] at h;rw [h.1,h.2]
  | .str a,.str b,h=>by simp only [D.beq,beq_iff_eq] at h;rw [h]
  | .sl a,.sl b,h=>by rw [rows_eq_of_beq (show rowsBeq a b = true from h)]
  | .nilp,.nilp,_=>rfl
  | .nilm,.nilm,_=>rfl
  | .nilf,.nilf,_=>rfl
theorem rows_eq_of_beq:∀ {a b:List (List D)},rowsBeq a b = true→a = b
  | [],[],_=>rfl
  | a :: as,b :: bs,h=>by
    simp only [rowsBeq,Bool.and_eq_true] at h
    rw [row_eq_of_beq h.1,rows_eq_of_beq h.2]
theorem row_eq_of_beq:∀ {a b:List D},rowBeq a b = true→a = b
  | [],[],_=>rfl
  | a :: as,b :: bs,h=>by
    simp only [rowBeq,Bool.and_eq_true] at h
    rw [D.eq_of_beq h.1,row_eq_of_beq h.2]
end
mutual
theorem HV.eq_of_beq:∀ {a b:HV},HV.beq a b = true→a = b
  | .d a,.d b,h=>by rw [D.eq_of_beq (show D.beq a b = true from h)]
  | .own a t,.own b u,h=>by
    simp only [HV.beq,Bool.and_eq_true] at h
    rw [rows_eq_of_beq h.1,Tip.eq_of_beq h.2]
  | .ref a b,.ref c d,h=>by simp only [HV.beq,Bool.and_eq_true,decide_eq_true_eq] at h;rw [h.1,h.2]
  | .row a b c d,.row e f g k,h=>by
    simp only [HV.beq,Bool.and_eq_true,decide_eq_true_eq] at h
    rw [h.1.1.1,h.1.1.2,h.1.2,h.2]
  | .map a,.map b,h=>by simp only [HV.beq,decide_eq_true_eq] at h;rw [h]
  | .iref a,.iref b,h=>by rw [row_eq_of_beq (show rowBeq a b = true from h)]
  | .fn f a b,.fn g c d,h=>by
    simp only [HV.beq,Bool.and_eq_true,decide_eq_true_eq] at h
    rw [h.1.1,vals_eq_of_beq h.1.2,vals_eq_of_beq h.2]
  | .agg a,.agg b,h=>by rw [vals_eq_of_beq (show valsBeq a b = true from h)]
  | .tup a,.tup b,h=>by rw [vals_eq_of_beq (show valsBeq a b = true from h)]
theorem vals_eq_of_beq:∀ {a b:List HV},valsBeq a b = true→a = b
  | [],[],_=>rfl
  | a :: as,b :: bs,h=>by
    simp only [valsBeq,Bool.and_eq_true] at h
    rw [HV.eq_of_beq h.1,vals_eq_of_beq h.2]
end
section
variable {call:CallT}
inductive StepAt (call:CallT) (E:Nat→Env) (M:Nat→St) (V:Nat→HV) (k:Nat) (o:HOper):Prop
  | alloc:o.op.isAlloc = true→E (k + 1) = E k→M (k + 1) = M k→StepAt call E M V k o
  | off:o.op.isAlloc = false→wanted (E k) o.guard = some false→V k = undefV→E (k + 1) = (E k).put o.dst (V k)→M (k + 1) = M k→StepAt call E M V k o
  | look (H':St):o.op.isAlloc = false→wanted (E k) o.guard = some true→o.op.eff = false→stepOp call (evalO (E k)) (M k) o.op = some (V k,H')→E (k + 1) = (E k).put o.dst (V k)→M (k + 1) = M k→StepAt call E M V k o
  | eff:o.op.isAlloc = false→wanted (E k) o.guard = some true→o.op.eff = true→stepOp call (evalO (E k)) (M k) o.op = some (V k,M (k + 1))→E (k + 1) = (E k).put o.dst (V k)→StepAt call E M V k o
def QuietAct (E:Nat→Env) (k:Nat) (o:HOper):Prop:=wanted (E k) o.guard = some true ∧ o.op.plain = false ∧ o.op.quiet = true
def EffAct (E:Nat→Env) (k:Nat) (o:HOper):Prop:=wanted (E k) o.guard = some true ∧ o.op.eff = true
def shiftE {α:Type} (x:α) (f:Nat→α):Nat→α
  | 0=>x
  | n + 1=>f n
theorem sameLook_inv {r:Option (HV × St)} {v:HV} (h:sameLook r v = true):∃ H'',r = some (v,H''):=by
  unfold sameLook at h
  split at h
  · rename_i u H''
    exact ⟨H'',by rw [HV.eq_of_beq h]⟩
  · cases h
theorem isAlloc_quiet {o:HOp} (h:o.quiet = true):o.isAlloc = false ∧ o.plain = false:=by cases o <;> simp_all [HOp.quiet,HOp.isAlloc,HOp.plain]
structure TraceOk (call:CallT) (ops:List HOper) (i:Nat) (e:Env) (H:St) (sn:List (Nat × St)) (pe:List Look) (e':Env) (H':St) (E:Nat→Env) (M:Nat→St) (V:Nat→HV):Prop where
  e0:E 0 = e
  m0:M 0 = H
  e1:E ops.length = e'
  m1:M ops.length = H'
  step:∀ (k:Nat) (o:HOper),ops[k]? = some o→StepAt call E M V k o
  snap:∀ (k:Nat) (o:HOper),ops[k]? = some o→QuietAct E k o→∀ s ∈ sn,s.1 ∈ o.un→∃ H'',stepOp call (evalO (E k)) s.2 o.op = some (V k,H'')
  pend:∀ (k:Nat) (o:HOper),ops[k]? = some o→EffAct E k o→∀ l ∈ pe,l.idx ∈ o.un→∃ H'',stepOp call (evalO l.e) (M (k + 1)) l.o.op = some (l.v,H'')
  early:∀ (j k:Nat) (oj ok:HOper),j < k→ops[j]? = some oj→ops[k]? = some ok→EffAct E j oj→QuietAct E k ok→i + j ∈ ok.un→oj.un ≠ []→∃ H'',stepOp call (evalO (E k)) (M j) ok.op = some (V k,H'')
  late:∀ (j k:Nat) (oj ok:HOper),j < k→ops[j]? = some oj→ops[k]? = some ok→QuietAct E j oj→EffAct E k ok→i + j ∈ ok.un→oj.un ≠ []→∃ H'',stepOp call (evalO (E j)) (M (k + 1)) oj.op = some (V j,H'')
theorem TraceOk.cons {o:HOper} {ops:List HOper} {i:Nat} {e e1 e':Env} {H H1 H':St} {sn sn':List (Nat × St)} {pe pe':List Look} {E:Nat→Env} {M:Nat→St} {V:Nat→HV} {v:HV}
    (T:TraceOk call ops (i + 1) e1 H1 sn' pe' e' H' E M V)
    (hst:StepAt call (shiftE e E) (shiftE H M) (shiftE v V) 0 o)
    (hsn:∀ s ∈ sn,s ∈ sn') (hpe:∀ l ∈ pe,l ∈ pe')
    (hsnap:QuietAct (shiftE e E) 0 o→∀ s ∈ sn,s.1 ∈ o.un→∃ H'',stepOp call (evalO e) s.2 o.op = some (v,H''))
    (hpend:EffAct (shiftE e E) 0 o→∀ l ∈ pe,l.idx ∈ o.un→∃ H'',stepOp call (evalO l.e) H1 l.o.op = some (l.v,H''))
    (hearly:EffAct (shiftE e E) 0 o→o.un ≠ []→(i,H) ∈ sn')
    (hlate:QuietAct (shiftE e E) 0 o→o.un ≠ []→(⟨i,e,o,v⟩:Look) ∈ pe') :
    TraceOk call (o :: ops) i e H sn pe e' H' (shiftE e E) (shiftE H M) (shiftE v V):=by
  have m0:=T.m0
  exact {
    e0:=rfl
    m0:=rfl
    e1:=T.e1
    m1:=T.m1
    step:=fun k x hx=>by
      cases k with
      | zero=>simp only [List.getElem?_cons_zero,Option.some.injEq] at hx;subst hx;exact hst
      | succ k=>
        have:=T.step k x (by simpa using hx)
        cases this with
        | alloc h1 h2 h3=>exact .alloc h1 h2 h3
        | off h1 h2 h3 h4 h5=>exact .off h1 h2 h3 h4 h5
        | look H'' h1 h2 h3 h4 h5 h6=>exact .look H'' h1 h2 h3 h4 h5 h6
        | eff h1 h2 h3 h4 h5=>exact .eff h1 h2 h3 h4 h5
    snap:=fun k x hx hq s hs hu=>by
      cases k with
      | zero=>simp only [List.getElem?_cons_zero,Option.some.injEq] at hx;subst hx;exact hsnap hq s hs hu
      | succ k=>exact T.snap k x (by simpa using hx) hq s (hsn s hs) hu
    pend:=fun k x hx hq l hl hu=>by
      cases k with
      | zero=>
        simp only [List.getElem?_cons_zero,Option.some.injEq] at hx
        subst hx
        have:=hpend hq l hl hu
        simp only [shiftE]
        rw [m0]
        exact this
      | succ k=>exact T.pend k x (by simpa using hx) hq l (hpe l hl) hu
    early:=fun j k oj ok hjk hj hk hej hqk hu hne=>by
      cases k with
      | zero=>omega
      | succ k=>
        cases j with
        | zero=>
          simp only [List.getElem?_cons_zero,Option.some.injEq] at hj
          subst hj
          exact T.snap k ok (by simpa using hk) hqk (i,H) (hearly hej hne) (by simpa using hu)
        | succ j=>exact T.early j k oj ok (by omega) (by simpa using hj) (by simpa using hk) hej hqk (by rw [show i + 1 + j = i + (j + 1) by omega];exact hu) hne
    late:=fun j k oj ok hjk hj hk hqj hek hu hne=>by
      cases k with
      | zero=>omega
      | succ k=>
        cases j with
        | zero=>
          simp only [List.getElem?_cons_zero,Option.some.injEq] at hj
          subst hj
          exact T.pend k ok (by simpa using hk) hek ⟨i,e,o,v⟩ (hlate hqj hne) (by simpa using hu)
        | succ j=>exact T.late j k oj ok (by omega) (by simpa using hj) (by simpa using hk) hqj hek (by rw [show i + 1 + j = i + (j + 1) by omega];exact hu) hne }
theorem drawOps_trace:∀ (ops:List HOper) (i:Nat) (e:Env) (H:St) (sn:List (Nat × St)) (pe:List Look) (e':Env) (H':St),drawOps call ops i e H sn pe = some (e',H') →
    ∃ E M V,TraceOk call ops i e H sn pe e' H' E M V
  | [],i,e,H,sn,pe,e',H',h=>by
    simp only [drawOps,Option.some.injEq,Prod.mk.injEq] at h
    exact ⟨fun _=>e,fun _=>H,fun _=>undefV,rfl,rfl,h.1,h.2,fun k o h=>by simp at h,fun k o h=>by simp at h,fun k o h=>by simp at h,fun j k oj ok _ h=>by simp at h,fun j k oj ok _ h=>by simp at h⟩
  | o :: ops,i,e,H,sn,pe,e',H',h=>by
    simp only [drawOps] at h
    by_cases ha:o.op.isAlloc = true
    · rw [if_pos ha] at h
      obtain ⟨E,M,V,T⟩:=drawOps_trace ops (i + 1) e H sn pe e' H' h
      have hq:¬ o.op.quiet = true:=fun hq=>by rw [(isAlloc_quiet hq).1] at ha;cases ha
      have he:o.op.eff = false:=by simp [HOp.eff,ha]
      exact ⟨_,_,_,T.cons (v:=undefV) (.alloc ha T.e0 T.m0) (fun _ h=>h) (fun _ h=>h) (fun h=>absurd h.2.2 hq) (fun h=>by have:=h.2;rw [he] at this;cases this)
        (fun h=>by have:=h.2;rw [he] at this;cases this) (fun h=>absurd h.2.2 hq)⟩
    · rw [if_neg ha] at h
      replace ha:o.op.isAlloc = false:=by simpa using ha
      split at h
      · rename_i hw
        split at h
        · rename_i v H1 hst
          split at h
          · rename_i hp
            obtain ⟨E,M,V,T⟩:=drawOps_trace ops (i + 1) _ _ sn pe e' H' h
            have he:o.op.eff = false:=by simp [HOp.eff,hp]
            exact ⟨_,_,_,T.cons (v:=v) (.look H1 ha hw he hst T.e0 T.m0) (fun _ h=>h) (fun _ h=>h) (fun h=>by have:=h.2.1;rw [hp] at this;cases this) (fun h=>by have:=h.2;rw [he] at this;cases this)
              (fun h=>by have:=h.2;rw [he] at this;cases this) (fun h=>by have:=h.2.1;rw [hp] at this;cases this)⟩
          · rename_i hp
            split at h
            · rename_i hq
              split at h
              · rename_i hall
                obtain ⟨E,M,V,T⟩:=drawOps_trace ops (i + 1) _ _ _ _ e' H' h
                have he:o.op.eff = false:=by simp [HOp.eff,hq]
                refine ⟨_,_,_,T.cons (v:=v) (.look H1 ha hw he hst T.e0 T.m0) (fun _ h=>h) (fun l hl=>?_) (fun _ s hs hu=>?_) (fun h=>by have:=h.2;rw [he] at this;cases this)
                  (fun h=>by have:=h.2;rw [he] at this;cases this) (fun _ hne=>?_)⟩
                · split
                  · exact hl
                  · exact List.mem_cons_of_mem _ hl
                · have:=List.all_eq_true.1 hall s hs
                  simp only [Bool.or_eq_true,Bool.not_eq_true',List.contains_eq_mem,decide_eq_false_iff_not] at this
                  rcases this with h' | h'
                  · exact absurd hu h'
                  · exact sameLook_inv h'
                · rw [if_neg (by simpa using hne)]
                  exact List.mem_cons_self
              · cases h
            · rename_i hq
              split at h
              · rename_i hall
                obtain ⟨E,M,V,T⟩:=drawOps_trace ops (i + 1) _ _ _ _ e' H' h
                have he:o.op.eff = true:=by simp [HOp.eff,hq,hp,ha]
                refine ⟨_,_,_,T.cons (v:=v) (.eff ha hw he (by simp only [shiftE,T.m0];exact hst) T.e0) (fun s hs=>?_) (fun _ h=>h) (fun h=>absurd h.2.2 hq) (fun _ l hl hu=>?_) (fun _ hne=>?_) (fun h=>absurd h.2.2 hq)⟩
                · split
                  · exact hs
                  · exact List.mem_cons_of_mem _ hs
                · have:=List.all_eq_true.1 hall l hl
                  simp only [Bool.or_eq_true,Bool.not_eq_true',List.contains_eq_mem,decide_eq_false_iff_not] at this
                  rcases this with h' | h'
                  · exact absurd hu h'
                  · exact sameLook_inv h'
                · rw [if_neg (by simpa using hne)]
                  exact List.mem_cons_self
              · cases h
        · cases h
      · rename_i hw
        obtain ⟨E,M,V,T⟩:=drawOps_trace ops (i + 1) _ _ sn pe e' H' h
        have no:¬ wanted e o.guard = some true:=by rw [hw];simp
        exact ⟨_,_,_,T.cons (v:=undefV) (.off ha hw rfl T.e0 T.m0) (fun _ h=>h) (fun _ h=>h) (fun h=>absurd h.1 no) (fun h=>absurd h.1 no) (fun h=>absurd h.1 no) (fun h=>absurd h.1 no)⟩
      · cases h
def allocZ (o:HOper):Option (List HV):=
  match o.op with
  | .alloc z=>some z
  | _=>none
def rank (ops:List HOper) (k:Nat):Nat:=((ops.take k).filterMap allocZ).length
theorem runAllocs_shape:∀ (ops:List HOper) (e e':Env) (H H':St),runAllocs call ops e H = some (e',H')→(∀ o ∈ ops,o.op.isAlloc = true→o.guard = none) →
    H' = { H with objs:=H.objs ++ (ops.filterMap allocZ).map Obj.cells } ∧
    (∀ d,(∀ o ∈ ops,o.op.isAlloc = true→o.dst ≠ some d)→e'.get d = e.get d) ∧
    (∀ (k d:Nat) (o:HOper),ops[k]? = some o→o.op.isAlloc = true→o.dst = some d→(∀ (j:Nat) (x:HOper),ops[j]? = some x→x.op.isAlloc = true→x.dst = some d→j = k)→e'.get d = some (.ref (H.objs.length + rank ops k) 0))
  | [],e,e',H,H',h,_=>by
    simp only [runAllocs,Option.some.injEq,Prod.mk.injEq] at h
    obtain ⟨rfl,rfl⟩:=h
    exact ⟨by simp,fun _ _=>rfl,fun k d o h=>by simp at h⟩
  | o :: ops,e,e',H,H',h,hg=>by
    simp only [runAllocs] at h
    by_cases ha:o.op.isAlloc = true
    · rw [if_pos ha] at h
      cases hst:stepOper call e H o with
      | none=>rw [hst] at h;cases h
      | some r=>
        obtain ⟨e1,H1⟩:=r
        rw [hst] at h
        simp only at h
        obtain ⟨h1,h2,h3⟩:=runAllocs_shape ops e1 e' H1 H' h (fun x hx=>hg x (by simp [hx]))
        have hgo:=hg o (by simp) ha
        obtain ⟨z,hz⟩:∃ z,o.op = .alloc z:=by
          revert ha
          cases o.op <;> simp [HOp.isAlloc]
        have hzz:allocZ o = some z:=by simp [allocZ,hz]
        simp only [stepOper,wanted,hgo,hz,stepOp,Option.some.injEq,Prod.mk.injEq] at hst
        obtain ⟨rfl,rfl⟩:=hst
        refine ⟨?_,fun d hd=>?_,fun k d x hk hax hdx hun=>?_⟩
        · rw [h1]
          simp [St.alloc,hzz]
        · rw [h2 d fun x hx=>hd x (by simp [hx]),get_put]
          simp only [upd]
          rw [if_neg (hd o (by simp) ha)]
        · cases k with
          | zero=>
            simp only [List.getElem?_cons_zero,Option.some.injEq] at hk
            subst hk
            rw [h2 d,get_put]
            · simp [upd,hdx,rank]
            · intro y hy hay hdy
              obtain ⟨j,hj⟩:=List.mem_iff_getElem?.1 hy
              have:=hun (j + 1) y (by simpa using hj) hay hdy
              omega
          | succ k=>
            rw [h3 k d x (by simpa using hk) hax hdx fun j y hj hay hdy=>by have:=hun (j + 1) y (by simpa using hj) hay hdy;omega]
            simp [St.alloc,rank,hzz]
            omega
    · rw [if_neg ha] at h
      obtain ⟨h1,h2,h3⟩:=runAllocs_shape ops e e' H H' h (fun x hx=>hg x (by simp [hx]))
      have hzz:allocZ o = none:=by
        unfold allocZ
        split
        · rename_i hz;simp [hz,HOp.isAlloc] at ha
        · rfl
      refine ⟨by rw [h1];simp [hzz],fun d hd=>h2 d fun x hx=>hd x (by simp [hx]),fun k d x hk hax hdx hun=>?_⟩
      cases k with
      | zero=>
        simp only [List.getElem?_cons_zero,Option.some.injEq] at hk
        subst hk
        exact absurd hax ha
      | succ k=>
        rw [h3 k d x (by simpa using hk) hax hdx fun j y hj hay hdy=>by have:=hun (j + 1) y (by simpa using hj) hay hdy;omega]
        simp [rank,hzz]
theorem rank_at {ops:List HOper} {k:Nat} {o:HOper} {z:List HV} (h:ops[k]? = some o) (hz:allocZ o = some z):(ops.filterMap allocZ)[rank ops k]? = some z:=by
  induction ops generalizing k with
  | nil=>simp at h
  | cons x ops ih=>
    cases k with
    | zero=>
      simp only [List.getElem?_cons_zero,Option.some.injEq] at h
      subst h
      simp [rank,hz]
    | succ k=>
      have:=ih (k:=k) (by simpa using h)
      cases hx:allocZ x with
      | none=>simpa [rank,hx] using this
      | some y=>simpa [rank,hx] using this
theorem rank_inj {ops:List HOper} {j k:Nat} {oj ok:HOper} {zj zk:List HV} (hj:ops[j]? = some oj) (hzj:allocZ oj = some zj) (hk:ops[k]? = some ok) (hzk:allocZ ok = some zk) (h:rank ops j = rank ops k):j = k:=by
  have key:∀ (j k:Nat) (oj:HOper) (zj:List HV),ops[j]? = some oj→allocZ oj = some zj→j < k→rank ops j < rank ops k:=by
    intro j k oj zj hj hzj hlt
    unfold rank
    have hjl:=lt_of_getElem? hj
    have:ops.take k = ops.take j ++ (oj :: (ops.take k).drop (j + 1)):=by
      have h1:(ops.take k).take j = ops.take j:=by rw [List.take_take,Nat.min_eq_left (by omega)]
      have h2:(ops.take k).drop j = oj :: (ops.take k).drop (j + 1):=by
        have hlen:j < (ops.take k).length:=by simp;omega
        rw [List.drop_eq_getElem_cons hlen]
        congr 1
        rw [List.getElem_take]
        have:=(List.getElem?_eq_some_iff.1 hj).2
        exact this
      rw [← h2,← h1,List.take_append_drop]
    rw [this]
    simp [List.filterMap_append,hzj]
  rcases Nat.lt_trichotomy j k with hlt | he | hlt
  · have:=key j k oj zj hj hzj hlt;omega
  · exact he
  · have:=key k j ok zk hk hzk hlt;omega
theorem rank_surj {ops:List HOper} {r:Nat} {z:List HV} (h:(ops.filterMap allocZ)[r]? = some z):∃ k o,ops[k]? = some o ∧ allocZ o = some z ∧ rank ops k = r:=by
  induction ops generalizing r with
  | nil=>simp at h
  | cons x ops ih=>
    cases hx:allocZ x with
    | none=>
      obtain ⟨k,o,h1,h2,h3⟩:=ih (r:=r) (by simpa [hx] using h)
      exact ⟨k + 1,o,by simpa using h1,h2,by simpa [rank,hx] using h3⟩
    | some y=>
      cases r with
      | zero=>
        simp only [List.filterMap_cons,hx,List.getElem?_cons_zero,Option.some.injEq] at h
        subst h
        exact ⟨0,x,rfl,hx,by simp [rank]⟩
      | succ r=>
        obtain ⟨k,o,h1,h2,h3⟩:=ih (r:=r) (by simpa [hx] using h)
        exact ⟨k + 1,o,by simpa using h1,h2,by simp only [rank,List.take_succ_cons,List.filterMap_cons,hx,List.length_cons];simpa [rank] using h3⟩
end
end Am
namespace Am
open Go
section
variable {call:CallT} {ρ ρ':HO→Option HV} {H H':St} {u:HV}
theorem mapM_congr {α β:Type} {f g:α→Option β}:∀ {l:List α},(∀ x ∈ l,f x = g x)→l.mapM f = l.mapM g
  | [],_=>rfl
  | a :: l,h=>by
    simp only [List.mapM_cons]
    rw [h a (by simp),mapM_congr fun x hx=>h x (by simp [hx])]
theorem stepOp_congr {op:HOp} (h:∀ x:HO,(∀ s ∈ x.slots,s ∈ op.slots)→ρ x = ρ' x):stepOp call ρ H op = stepOp call ρ' H op:=by
  have hb:∀ (l:Option HO) (d:Int),(∀ s ∈ optSlots l,s ∈ op.slots)→bnd ρ l d = bnd ρ' l d:=by
    intro l d hl
    cases l with
    | none=>rfl
    | some y=>simp only [bnd];rw [h y hl]
  cases op <;> simp only [stepOp]
  case move x=>rw [h x fun s hs=>hs]
  case pick c a b=>
    have e:∀ t:Bool,ρ (if t = true then a else b) = ρ' (if t = true then a else b):=fun t=>by
      cases t
      · exact h b fun s hs=>by simp [HOp.slots,hs]
      · exact h a fun s hs=>by simp [HOp.slots,hs]
    rw [h c fun s hs=>by simp [HOp.slots,hs]]
    simp only [e]
  case box x=>rw [h x fun s hs=>hs]
  case build zero parts=>
    rw [mapM_congr (g:=fun (o,s,x)=>(ρ' x).map fun v=>(o,s,v))]
    rintro ⟨o,s,x⟩ hx
    simp only
    rw [h x fun s' hs'=>by simp only [HOp.slots,List.mem_flatMap];exact ⟨_,hx,hs'⟩]
  case buildSlice sz parts=>
    rw [mapM_congr (g:=fun x=>match ρ' x with
      | some v=>(toDs v.cells).bind fun r=>if r.length = sz then some r else none
      | none=>none)]
    · rfl
    · intro x hx
      rw [h x fun s' hs'=>by simp only [HOp.slots,List.mem_flatMap];exact ⟨_,hx,hs'⟩]
      rfl
  case load x=>rw [h x fun s hs=>hs]
  case store a b=>rw [h a fun s hs=>by simp [HOp.slots,hs],h b fun s hs=>by simp [HOp.slots,hs]]
  case nilCheck x=>rw [h x fun s hs=>hs]
  case bin a b=>rw [h a fun s hs=>by simp [HOp.slots,hs],h b fun s hs=>by simp [HOp.slots,hs]]
  case binB a b=>rw [h a fun s hs=>by simp [HOp.slots,hs],h b fun s hs=>by simp [HOp.slots,hs]]
  case binP a b=>rw [h a fun s hs=>by simp [HOp.slots,hs],h b fun s hs=>by simp [HOp.slots,hs]]
  case eqAgg a b=>rw [h a fun s hs=>by simp [HOp.slots,hs],h b fun s hs=>by simp [HOp.slots,hs]]
  case un x=>rw [h x fun s hs=>hs]
  case convInt x=>rw [h x fun s hs=>hs]
  case convBS x=>rw [h x fun s hs=>hs]
  case convSB x=>rw [h x fun s hs=>hs]
  case convSS x=>rw [h x fun s hs=>hs]
  case makeFunc f a b=>
    rw [mapM_congr (f:=ρ) (g:=ρ') (l:=a) fun x hx=>h x fun s hs=>by simp only [HOp.slots,List.mem_append,List.mem_flatMap];exact .inl ⟨_,hx,hs⟩,
      mapM_congr (f:=ρ) (g:=ρ') (l:=b) fun x hx=>h x fun s hs=>by simp only [HOp.slots,List.mem_append,List.mem_flatMap];exact .inr ⟨_,hx,hs⟩]
  case makeMap hint=>rw [hb hint 0 fun s hs=>hs]
  case makeSlice a b=>rw [h a fun s hs=>by simp [HOp.slots,hs],h b fun s hs=>by simp [HOp.slots,hs]]
  case sliceStr x lo hi=>rw [h x fun s hs=>by simp [HOp.slots,hs]];simp only [hb lo _ fun s hs=>by simp [HOp.slots,hs],hb hi _ fun s hs=>by simp [HOp.slots,hs]]
  case sliceSl x lo hi=>rw [h x fun s hs=>by simp [HOp.slots,hs]];simp only [hb lo _ fun s hs=>by simp [HOp.slots,hs],hb hi _ fun s hs=>by simp [HOp.slots,hs]]
  case sliceArr x lo hi=>rw [h x fun s hs=>by simp [HOp.slots,hs]];simp only [hb lo _ fun s hs=>by simp [HOp.slots,hs],hb hi _ fun s hs=>by simp [HOp.slots,hs]]
  case fieldAddr x=>rw [h x fun s hs=>hs]
  case field x=>rw [h x fun s hs=>hs]
  case indexAddrArr a b=>rw [h a fun s hs=>by simp [HOp.slots,hs],h b fun s hs=>by simp [HOp.slots,hs]]
  case indexAddrSl a b=>rw [h a fun s hs=>by simp [HOp.slots,hs],h b fun s hs=>by simp [HOp.slots,hs]]
  case indexStr a b=>rw [h a fun s hs=>by simp [HOp.slots,hs],h b fun s hs=>by simp [HOp.slots,hs]]
  case lookup a b _=>rw [h a fun s hs=>by simp [HOp.slots,hs],h b fun s hs=>by simp [HOp.slots,hs]]
  case mapUpdate a b c=>rw [h a fun s hs=>by simp [HOp.slots,hs],h b fun s hs=>by simp [HOp.slots,hs],h c fun s hs=>by simp [HOp.slots,hs]]
  case mapEntry a b=>rw [h a fun s hs=>by simp [HOp.slots,hs],h b fun s hs=>by simp [HOp.slots,hs]]
  case entryStore a b c=>rw [h a fun s hs=>by simp [HOp.slots,hs],h b fun s hs=>by simp [HOp.slots,hs],h c fun s hs=>by simp [HOp.slots,hs]]
  case rangeStr x=>rw [h x fun s hs=>hs]
  case nextStr x=>rw [h x fun s hs=>hs]
  case extract x i=>rw [h x fun s hs=>hs]
  case callF f as=>rw [mapM_congr (f:=ρ) (g:=ρ') (l:=as) fun x hx=>h x fun s hs=>by simp only [HOp.slots,List.mem_flatMap];exact ⟨_,hx,hs⟩]
  case callV y as=>
    rw [h y fun s hs=>by simp [HOp.slots,hs],mapM_congr (f:=ρ) (g:=ρ') (l:=as) fun x hx=>h x fun s hs=>by simp only [HOp.slots,List.mem_append,List.mem_flatMap];exact .inr ⟨_,hx,hs⟩]
  case len k x=>rw [h x fun s hs=>hs]
  case append a b=>rw [h a fun s hs=>by simp [HOp.slots,hs],h b fun s hs=>by simp [HOp.slots,hs]]
  case copy a b=>rw [h a fun s hs=>by simp [HOp.slots,hs],h b fun s hs=>by simp [HOp.slots,hs]]
  case delete a b=>rw [h a fun s hs=>by simp [HOp.slots,hs],h b fun s hs=>by simp [HOp.slots,hs]]
  case minmax xs=>rw [mapM_congr (f:=ρ) (g:=ρ') (l:=xs) fun x hx=>h x fun s hs=>by simp only [HOp.slots,List.mem_flatMap];exact ⟨_,hx,hs⟩]
theorem plain_form {op:HOp} (hp:op.plain = true) (K:St):stepOp call ρ H op = ((stepOp call ρ K op).map (·.1)).map (·,H):=by
  cases op <;> first
    | (cases hp;done)
    | (simp only [stepOp,Option.map_map,Function.comp_def];done)
    | (simp only [stepOp];(repeat' split) <;> simp_all [Function.comp_def])
theorem plain_any {op:HOp} (hp:op.plain = true) (h:stepOp call ρ H op = some (u,H')) (K:St):stepOp call ρ K op = some (u,K):=by
  rw [plain_form hp H,h]
  rfl
end
end Am
