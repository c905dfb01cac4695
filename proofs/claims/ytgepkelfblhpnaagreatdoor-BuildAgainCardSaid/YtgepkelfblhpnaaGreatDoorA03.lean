/- A part of the proof of BuildAgain: no condition of its own. Whence: AmPlain, AmOps1. -/
import Derived.Test.YtgepkelfblhpnaaGreatDoorA02
import Derived.Laws.Entries
import Derived.Laws.Strings
import Derived.Laws.StructEq
import Derived.Laws.Slices
set_option linter.all false
namespace Am
open Go
section
variable {P:Program} {gt:Nat→Option (List D)} {L:Lay} {tips:List Nat} {w:World} {η:Operand→Value} {ρ:HO→Option HV}
def Opnds (gt:Nat→Option (List D)) (L:Lay) (tips:List Nat) (w:World) (η:Operand→Value) (ρ:HO→Option HV):Prop:=
  ∀ (x:Operand) (y:HO) (u:HV),cO gt x = some y→ρ y = some u→VRel L tips w u (η x)
theorem zLeaf_rel {v:Value} {u:HV} (h:zLeaf v = some u):VRel L tips w u v:=by
  unfold zLeaf at h
  split at h <;> simp only [Option.some.injEq,reduceCtorEq] at h <;> subst h
  · exact .d _ _ (.bool _)
  · exact .d _ _ (.int _ _)
  · rename_i s
    have:=DRel.str (I:=L.I) (w:=w) s.data.toList
    exact .d _ _ this
  · exact .d _ _ .nilp
  · exact .own _ _ _ (.sl0 _ _) ⟨none,rfl,fun _ h=>by cases h⟩
  · exact .d _ _ .nilm
  · exact .d _ _ .nilf
theorem mapM_some_cons {α β:Type} {f:α→Option β} {x:α} {xs:List α} {r:List β} (h:(x :: xs).mapM f = some r) :
    ∃ y ys,f x = some y ∧ xs.mapM f = some ys ∧ r = y :: ys:=by
  simp only [List.mapM_cons,Option.pure_def,Option.bind_eq_bind] at h
  cases hx:f x with
  | none=>simp [hx] at h
  | some y=>cases hxs:xs.mapM f with
    | none=>simp [hx,hxs] at h
    | some ys=>simp only [hx,hxs,Option.bind_some,Option.some.injEq] at h;exact ⟨y,ys,rfl,rfl,h.symm⟩
theorem mapM_some_nil {α β:Type} {f:α→Option β} {r:List β} (h:([]:List α).mapM f = some r):r = []:=by
  simp only [List.mapM_nil,Option.pure_def,Option.some.injEq] at h;exact h.symm
theorem zVal_rel {v:Value} {u:HV} (h:zVal v = some u):VRel L tips w u v:=by
  unfold zVal at h
  split at h
  · rename_i cs
    cases hm:cs.toList.mapM zLeaf with
    | none=>simp [hm] at h
    | some us=>
      simp only [hm,Option.map_some,Option.some.injEq] at h
      subst h
      have:∀ (l:List Value) (us:List HV),l.mapM zLeaf = some us→VRels L tips w us l:=by
        intro l
        induction l with
        | nil=>intro us h;rw [mapM_some_nil h];exact .nil
        | cons x l ih=>intro us h;obtain ⟨y,ys,h1,h2,rfl⟩:=mapM_some_cons h;exact .cons _ _ _ _ (zLeaf_rel h1) (ih _ h2)
      have h2:=VRel.agg _ _ (this _ _ hm)
      simpa using h2
  · rename_i vs
    split at h
    · rename_i he
      simp only [Option.some.injEq] at h
      subst h
      have:vs = #[]:=by simpa using he
      subst this
      exact .tup [] [] .nil
    · cases h
  · exact zLeaf_rel h
theorem opnds_of {e:Env} {a:Act} (hg:∀ (g:Nat) (cs:List D),gt g = some cs→CellsRel L.I w g 0 cs)
    (he:∀ (k:Nat) (u:HV),e.get k = some u→∃ v,a.tmps[k]? = some v ∧ VRel L tips w u v):Opnds gt L tips w a.eval (evalO e):=by
  intro x y u hc hv
  cases x with
  | tmp t=>
    simp only [cO,Option.some.injEq] at hc
    subst hc
    obtain ⟨v,h1,h2⟩:=he t u hv
    simpa [Act.eval,Array.getD_eq_getD_getElem?,h1] using h2
  | const v=>
    simp only [cO] at hc
    cases hz:zVal v with
    | none=>simp [hz] at hc
    | some z=>simp only [hz,Option.map_some,Option.some.injEq] at hc;subst hc;simp only [evalO,Option.some.injEq] at hv;subst hv;exact zVal_rel hz
  | global g=>
    simp only [cO] at hc
    cases hz:gt g with
    | none=>simp [hz] at hc
    | some cs=>simp only [hz,Option.map_some,Option.some.injEq] at hc;subst hc;simp only [evalO,Option.some.injEq] at hv;subst hv;exact .iref _ _ _ (hg g cs hz)
  | func f=>
    simp only [cO,Option.some.injEq] at hc
    subst hc
    simp only [evalO,Option.some.injEq] at hv
    subst hv
    exact .fn f [] [] [] [] .nil .nil
theorem opnds_list (h:Opnds gt L tips w η ρ):∀ (xs:List Operand) (ys:List HO) (us:List HV),xs.mapM (cO gt) = some ys→ys.mapM ρ = some us →
    VRels L tips w us (xs.map η):=by
  intro xs
  induction xs with
  | nil=>intro ys us h1 h2;rw [mapM_some_nil h1] at h2;rw [mapM_some_nil h2];exact .nil
  | cons x xs ih=>
    intro ys us h1 h2
    obtain ⟨y,ys',h3,h4,rfl⟩:=mapM_some_cons h1
    obtain ⟨u,us',h5,h6,rfl⟩:=mapM_some_cons h2
    exact .cons _ _ _ _ (h x y u h3 h5) (ih _ _ h4 h6)
theorem VRel.int_inv {k:IntKind} {n:Int} {v:Value} (h:VRel L tips w (.d (.int k n)) v):v = .int k n:=by
  cases h with | d _ _ h=>cases h;rfl
theorem VRel.bool_inv {b:Bool} {v:Value} (h:VRel L tips w (.d (.bool b)) v):v = .bool b:=by
  cases h with | d _ _ h=>cases h;rfl
theorem VRel.str_inv {s:List UInt8} {v:Value} (h:VRel L tips w (.d (.str s)) v):v = .string ⟨s.toArray⟩:=by
  cases h with | d _ _ h=>cases h;rfl
theorem VRel.nilp_inv {v:Value} (h:VRel L tips w (.d .nilp) v):v = .pointer none:=by
  cases h with | d _ _ h=>cases h;rfl
theorem intOf_inv {u:HV} {n:Int} {v:Value} (h:VRel L tips w u v) (hi:intOf u = some n):∃ k,v = .int k n:=by
  cases u with
  | d x=>cases x <;> simp only [intOf,Option.some.injEq,reduceCtorEq] at hi;subst hi;exact ⟨_,h.int_inv⟩
  | _=>simp [intOf] at hi
theorem size_mk (s:List UInt8):(ByteArray.mk s.toArray).size = s.length:=by simp [ByteArray.size]
theorem append_mk (s t:List UInt8):(ByteArray.mk s.toArray ++ ByteArray.mk t.toArray) = ByteArray.mk (s ++ t).toArray:=by
  apply ByteArray.ext
  simp [ByteArray.data_append]
theorem size_inv {t:TypeId} {n:Nat} (h:tSize P t = some n):∃ i,P.info? t = some i ∧ i.size = n ∧ n ≠ 0:=by
  unfold tSize at h
  cases hi:P.info? t with
  | none=>simp [hi] at h
  | some i=>
    simp only [hi] at h
    split at h
    · cases h
    · rename_i h0
      simp only [Option.some.injEq] at h
      exact ⟨i,rfl,h,h ▸ h0⟩
theorem run_sizeOf {t:TypeId} {i:TypeInfo} (h:P.info? t = some i) (w:World):(Go.sizeOf t).run P w = .ok i.size w:=by
  simp [Go.sizeOf,typeInfo,h]
theorem run_isAgg {t:TypeId} {b:Bool} (h:tAgg P t = some b) (w:World):(isAgg t).run P w = .ok b w:=by
  unfold tAgg at h
  split at h <;> simp only [Option.some.injEq,reduceCtorEq] at h <;> subst h
  · rename_i hu;simp [isAgg,run_underlying hu]
  · rename_i hu;simp [isAgg,run_underlying hu]
  · rename_i d h1 h2 hu
    simp only [isAgg,Sem.run_bind,run_underlying hu,Result.andThen_ok,Sem.run_pure]
theorem evalBin_sound {op:BinOp} {t:TypeId} {a b u:HV} {x y:Value} (ha:VRel L tips w a x) (hb:VRel L tips w b y) (h:evalBin op a b = some u) :
    ∃ v,(binOp op t x y).run P w = .ok v w ∧ VRel L tips w u v:=by
  unfold evalBin at h
  split at h
  · rename_i j m k n
    have hx:=ha.int_inv
    have hy:=hb.int_inv
    subst hx hy
    cases op
    case shl=>
      simp only at h
      split at h
      · rename_i h0
        simp only [Option.some.injEq] at h;subst h
        refine ⟨_,?_,.d _ _ (.int _ _)⟩
        have h0':¬ n < 0:=by omega
        simp [binOp,Op.shift,h0']
      · cases h
    case shr=>
      simp only at h
      split at h
      · rename_i h0
        simp only [Option.some.injEq] at h;subst h
        refine ⟨_,?_,.d _ _ (.int _ _)⟩
        have h0':¬ n < 0:=by omega
        simp [binOp,Op.shift,h0']
      · cases h
    case quo=>
      simp only at h
      by_cases hjk:j = k
      · subst hjk
        simp only [ne_eq,not_true_eq_false,if_false] at h
        split at h
        · cases h
        · rename_i h0;simp only [Option.some.injEq] at h;subst h;exact ⟨_,by simp [binOp,Op.intDiv,h0],.d _ _ (.int _ _)⟩
      · simp [hjk] at h
    case rem=>
      simp only at h
      by_cases hjk:j = k
      · subst hjk
        simp only [ne_eq,not_true_eq_false,if_false] at h
        split at h
        · cases h
        · rename_i h0;simp only [Option.some.injEq] at h;subst h;exact ⟨_,by simp [binOp,Op.intDiv,h0],.d _ _ (.int _ _)⟩
      · simp [hjk] at h
    all_goals
      simp only at h
      by_cases hjk:j = k
      · subst hjk
        simp only [ne_eq,not_true_eq_false,if_false,Option.some.injEq,reduceCtorEq] at h
        subst h
        first
          | exact ⟨_,by simp only [binOp,ne_eq,not_true_eq_false,if_false];rfl,.d _ _ (.int _ _)⟩
          | exact ⟨_,by simp only [binOp,ne_eq,not_true_eq_false,if_false];rfl,.d _ _ (.bool _)⟩
      · simp [hjk] at h
  · rename_i s t
    have hx:=ha.str_inv
    have hy:=hb.str_inv
    subst hx hy
    cases op <;> simp only [Option.some.injEq,reduceCtorEq] at h
    case add=>
      split at h
      · rename_i hl
        simp only [Option.some.injEq] at h;subst h
        refine ⟨_,?_,.d _ _ (.str _)⟩
        simp only [binOp,Op.stringOp,size_mk,append_mk,show IntKind.i64.max = 9223372036854775807 from rfl]
        rw [if_neg (by omega)]
        rfl
      · cases h
    all_goals
      subst h
      exact ⟨_,by simp [binOp,Op.stringOp],.d _ _ (.bool _)⟩
  · cases h
theorem run_eql_of {t:TypeId} {x y:Value} {r:Bool} (hb:binOp .eql t x y = (do pure (.bool (← Op.equal t x y)))) (hn:binOp .neq t x y = (do pure (.bool (!(← Op.equal t x y)))))
    (h:(Op.equalIn (9999 + 1) t x y).run P w = .ok r w) (neg:Bool):(binOp (if neg then .neq else .eql) t x y).run P w = .ok (.bool (if neg then !r else r)) w:=by
  have h':(Op.equal t x y).run P w = .ok r w:=h
  cases neg
  · simp only [Bool.false_eq_true,if_false];rw [hb];simp [h']
  · simp only [if_true];rw [hn];simp [h']
theorem run_equalIn_bool {t:TypeId} (ht:P.underlying t = some .bool) (d:Nat) (a b:Bool):(Op.equalIn (d + 1) t (.bool a) (.bool b)).run P w = .ok (a == b) w:=by
  simp [Op.equalIn,run_underlying ht]
theorem run_equalIn_nn {t e:TypeId} (ht:P.underlying t = some (.pointer e)) (d:Nat):(Op.equalIn (d + 1) t (.pointer none) (.pointer none)).run P w = .ok true w:=by
  simp [Op.equalIn,run_underlying ht]
theorem run_equalIn_sn {t e:TypeId} (ht:P.underlying t = some (.pointer e)) (d:Nat) (a:Addr):(Op.equalIn (d + 1) t (.pointer (some a)) (.pointer none)).run P w = .ok false w:=by
  simp [Op.equalIn,run_underlying ht]
theorem run_equalIn_ns {t e:TypeId} (ht:P.underlying t = some (.pointer e)) (d:Nat) (a:Addr):(Op.equalIn (d + 1) t (.pointer none) (.pointer (some a))).run P w = .ok false w:=by
  simp [Op.equalIn,run_underlying ht]
theorem evalBinB_sound {neg:Bool} {t:TypeId} {a b u:HV} {x y:Value} (ht:P.underlying t = some .bool) (ha:VRel L tips w a x) (hb:VRel L tips w b y) (h:evalBinB neg a b = some u) :
    ∃ v,(binOp (if neg then .neq else .eql) t x y).run P w = .ok v w ∧ VRel L tips w u v:=by
  unfold evalBinB at h
  split at h
  · have hx:=ha.bool_inv
    have hy:=hb.bool_inv
    subst hx hy
    simp only [Option.some.injEq] at h
    subst h
    exact ⟨_,run_eql_of rfl rfl (run_equalIn_bool ht 9999 _ _) neg,.d _ _ (.bool _)⟩
  · cases h
theorem evalBinP_sound {neg:Bool} {t e:TypeId} {a b u:HV} {x y:Value} (ht:P.underlying t = some (.pointer e)) (ha:VRel L tips w a x) (hb:VRel L tips w b y) (h:evalBinP neg a b = some u) :
    ∃ v,(binOp (if neg then .neq else .eql) t x y).run P w = .ok v w ∧ VRel L tips w u v:=by
  unfold evalBinP at h
  split at h
  · have hx:=ha.nilp_inv
    have hy:=hb.nilp_inv
    subst hx hy
    simp only [Option.some.injEq] at h
    subst h
    refine ⟨_,run_eql_of rfl rfl (run_equalIn_nn ht 9999) neg,?_⟩
    cases neg <;> exact .d _ _ (.bool _)
  · have hy:=hb.nilp_inv
    cases ha
    subst hy
    simp only [Option.some.injEq] at h
    subst h
    refine ⟨_,run_eql_of rfl rfl (run_equalIn_sn ht 9999 _) neg,?_⟩
    cases neg <;> exact .d _ _ (.bool _)
  · have hx:=ha.nilp_inv
    cases hb
    subst hx
    simp only [Option.some.injEq] at h
    subst h
    refine ⟨_,run_eql_of rfl rfl (run_equalIn_ns ht 9999 _) neg,?_⟩
    cases neg <;> exact .d _ _ (.bool _)
  · cases h
theorem evalUn_sound {op:UnOp} {a u:HV} {x:Value} (ha:VRel L tips w a x) (h:evalUn op a = some u) :
    ∃ v,(Op.unary op x).run P w = .ok v w ∧ VRel L tips w u v:=by
  unfold evalUn at h
  split at h
  · have hx:=ha.int_inv
    subst hx
    cases op <;> simp only [Option.some.injEq,reduceCtorEq] at h <;> subst h
    · exact ⟨_,by simp [Op.unary,Op.intArith],.d _ _ (.int _ _)⟩
    · exact ⟨_,rfl,.d _ _ (.int _ _)⟩
  · have hx:=ha.bool_inv
    subst hx
    cases op <;> simp only [Option.some.injEq,reduceCtorEq] at h
    subst h
    exact ⟨_,by simp [Op.unary],.d _ _ (.bool _)⟩
  · cases h
def DCells (I:Nat→Nat) (w:World) (as:List D) (X:List Value):Prop:=
  as.length = X.length ∧ ∀ (k:Nat) (x:D) (v:Value),as[k]? = some x→X[k]? = some v→DRel I w x v
theorem DCells.sub {I:Nat→Nat} {as:List D} {X:List Value} (h:DCells I w as X) (off n:Nat):DCells I w ((as.drop off).take n) ((X.drop off).take n):=by
  refine ⟨by simp [h.1],fun k x v hx hv=>?_⟩
  rw [List.getElem?_take] at hx hv
  split at hx
  · rename_i hk
    rw [if_pos hk] at hv
    rw [List.getElem?_drop] at hx hv
    exact h.2 _ _ _ hx hv
  · cases hx
theorem cellsEq_len:∀ {ks:List LK} {a b:List D} {r:Bool},cellsEq ks a b = some r→a.length = ks.length ∧ b.length = ks.length
  | [],[],[],_,_=>⟨rfl,rfl⟩
  | k :: ks,a :: as,b :: bs,r,h=>by
    simp only [cellsEq] at h
    cases h1:scalarEq k a b with
    | none=>simp [h1] at h
    | some x=>cases h2:cellsEq ks as bs with
      | none=>simp [h1,h2] at h
      | some y=>have:=cellsEq_len h2;simp [this.1,this.2]
  | [],_ :: _,_,_,h=>by simp [cellsEq] at h
  | [],[],_ :: _,_,h=>by simp [cellsEq] at h
  | _ :: _,[],_,_,h=>by simp [cellsEq] at h
  | _ :: _,_ :: _,[],_,h=>by simp [cellsEq] at h
theorem cellsEq_append:∀ {ks:List LK} {ks':List LK} {a b:List D} {r:Bool},cellsEq (ks ++ ks') a b = some r →
    ∃ r1 r2,cellsEq ks (a.take ks.length) (b.take ks.length) = some r1 ∧ cellsEq ks' (a.drop ks.length) (b.drop ks.length) = some r2 ∧ r = (r1 && r2)
  | [],ks',a,b,r,h=>⟨true,r,rfl,h,by simp⟩
  | k :: ks,ks',a :: as,b :: bs,r,h=>by
    simp only [List.cons_append,cellsEq] at h
    cases h1:scalarEq k a b with
    | none=>simp [h1] at h
    | some x=>cases h2:cellsEq (ks ++ ks') as bs with
      | none=>simp [h1,h2] at h
      | some y=>
        simp only [h1,h2,Option.some.injEq] at h
        obtain ⟨r1,r2,h3,h4,h5⟩:=cellsEq_append h2
        exact ⟨x && r1,r2,by simp [cellsEq,h1,h3],by simpa using h4,by rw [← h,h5,Bool.and_assoc]⟩
  | _ :: _,_,[],_,_,h=>by simp [cellsEq] at h
  | _ :: _,_,_ :: _,[],_,h=>by simp [cellsEq] at h
def IsPart (P:Program) (t:TypeId) (X:List Value) (v:Value):Prop:=
  (tAgg P t = some true ∧ v = .agg X.toArray) ∨ (tAgg P t = some false ∧ X = [v])
theorem run_part {t:TypeId} {n off:Nat} {i:TypeInfo} (hi:P.info? t = some i) (hn:i.size = n) (X:List Value) (hl:off + n ≤ X.length) (g:Bool) (hg:tAgg P t = some g) (h1:g = false→n = 1) (w:World) :
    ∃ v,(part t X.toArray off).run P w = .ok v w ∧ IsPart P t ((X.drop off).take n) v:=by
  have ha:=run_isAgg hg w
  cases g with
  | true=>
    refine ⟨_,?_,.inl ⟨hg,rfl⟩⟩
    simp only [part,Sem.run_bind,ha,Result.andThen_ok,if_true,run_sizeOf hi,Sem.run_pure,hn]
    congr 2
    simp [List.extract_eq_take_drop]
  | false=>
    obtain rfl:=h1 rfl
    have hlt:off < X.length:=by omega
    refine ⟨X[off],?_,.inr ⟨hg,?_⟩⟩
    · simp only [part,Sem.run_bind,ha,Result.andThen_ok,Bool.false_eq_true,if_false]
      simp [hlt]
    · rw [List.drop_eq_getElem_cons hlt];rfl
theorem flatN_leaf {d:Nat} {t:TypeId} {n:List LK} (h:flatN P d t = some n):∃ g,tAgg P t = some g ∧ (g = false→n.length = 1):=by
  cases d with
  | zero=>cases h
  | succ d=>
    unfold flatN at h
    split at h
    · rename_i hu;simp only [Option.some.injEq] at h;subst h;exact ⟨false,by simp [tAgg,hu],fun _=>rfl⟩
    · rename_i hu;simp only [Option.some.injEq] at h;subst h;exact ⟨false,by simp [tAgg,hu],fun _=>rfl⟩
    · rename_i hu;simp only [Option.some.injEq] at h;subst h;exact ⟨false,by simp [tAgg,hu],fun _=>rfl⟩
    · rename_i hu;exact ⟨true,by simp [tAgg,hu],fun h=>by cases h⟩
    · cases h
theorem take_len {α:Type} {l:List α} {n:Nat} (h:l.length = n):l.take n = l:=List.take_of_length_le (by omega)
theorem flatFs_sound {I:Nat→Nat} {w:World} {d:Nat} {go:TypeId→Option (List LK)}
    (hgo:∀ t n,go t = some n→∃ g,tAgg P t = some g ∧ (g = false→n.length = 1))
    (ih:∀ (t:TypeId) (n:List LK),go t = some n→∀ (as bs:List D) (X Y:List Value) (x y:Value) (r:Bool),
      DCells I w as X→DCells I w bs Y→cellsEq n as bs = some r→IsPart P t X x→IsPart P t Y y→(Op.equalIn d t x y).run P w = .ok r w)
    (as bs:List D) (X Y:List Value) (hX:DCells I w as X) (hY:DCells I w bs Y) :
    ∀ (fs:List Field) (off:Nat) (ks:List LK) (r:Bool),flatFs P go fs off = some ks→cellsEq ks (as.drop off) (bs.drop off) = some r →
      (Op.eqFields d X.toArray Y.toArray fs).run P w = .ok r w
  | [],off,ks,r,h,hr=>by
    simp only [flatFs,Option.some.injEq] at h
    subst h
    have hl:=cellsEq_len hr
    rw [List.length_eq_zero_iff.1 hl.1,List.length_eq_zero_iff.1 hl.2] at hr
    simp only [cellsEq,Option.some.injEq] at hr
    subst hr
    rfl
  | f :: fs,off,ks,r,h,hr=>by
    simp only [flatFs] at h
    split at h
    · rename_i hf
      simp only [Bool.and_eq_true,bne_iff_ne,beq_iff_eq] at hf
      obtain ⟨hname,hoff⟩:=hf
      split at h
      · rename_i n hn
        split at h
        · rename_i hsz
          cases hfs:flatFs P go fs (off + n.length) with
          | none=>simp [hfs] at h
          | some ks'=>
            simp only [hfs,Option.map_some,Option.some.injEq] at h
            subst h
            have hl:=cellsEq_len hr
            obtain ⟨r1,r2,h1,h2,rfl⟩:=cellsEq_append hr
            obtain ⟨i,hi,hin,_⟩:=size_inv hsz
            obtain ⟨g,hg,hg1⟩:=hgo _ _ hn
            have hXl:X.length = as.length:=hX.1.symm
            have hYl:Y.length = bs.length:=hY.1.symm
            simp only [List.length_drop,List.length_append] at hl
            have hnpos:n.length ≠ 0:=(size_inv hsz).choose_spec.2.2
            obtain ⟨x,hx,px⟩:=run_part hi hin X (off:=off) (by omega) g hg hg1 w
            obtain ⟨y,hy,py⟩:=run_part hi hin Y (off:=off) (by omega) g hg hg1 w
            have he:=ih _ _ hn _ _ _ _ x y r1 (hX.sub off n.length) (hY.sub off n.length) h1 px py
            have hrest:=flatFs_sound hgo ih as bs X Y hX hY fs (off + n.length) ks' r2 hfs (by simpa [List.drop_drop] using h2)
            simp only [Op.eqFields,ne_eq,hname,not_false_eq_true,if_true,Sem.run_bind,hoff,hx,hy,he,Result.andThen_ok]
            cases r1
            · simp
            · simp only [Bool.not_true,Bool.false_eq_true,if_false,Bool.true_and];exact hrest
        · cases h
      · cases h
    · cases h
theorem flat_sound (I:Nat→Nat) (w:World):∀ (d:Nat) (t:TypeId) (n:List LK),flatN P d t = some n→∀ (D':Nat) (as bs:List D) (X Y:List Value) (x y:Value) (r:Bool),
    DCells I w as X→DCells I w bs Y→cellsEq n as bs = some r→IsPart P t X x→IsPart P t Y y →
    (Op.equalIn (D' + d) t x y).run P w = .ok r w:=by
  intro d
  induction d with
  | zero=>intro t n h;cases h
  | succ d ih=>
    intro t n h D' as bs X Y x y r hX hY hr hx hy
    have leaf:∀ k,tAgg P t = some false→n = [k]→∃ a b,DRel I w a x ∧ DRel I w b y ∧ scalarEq k a b = some r:=by
      intro k hg hn
      subst hn
      have hl:=cellsEq_len hr
      obtain ⟨a,rfl⟩:=List.length_eq_one_iff.1 hl.1
      obtain ⟨b,rfl⟩:=List.length_eq_one_iff.1 hl.2
      simp only [cellsEq] at hr
      cases hs:scalarEq k a b with
      | none=>simp [hs] at hr
      | some r'=>
        simp only [hs,Bool.and_true,Option.some.injEq] at hr
        subst hr
        rcases hx with ⟨h1,_⟩ | ⟨_,rfl⟩
        · rw [hg] at h1;cases h1
        · rcases hy with ⟨h1,_⟩ | ⟨_,rfl⟩
          · rw [hg] at h1;cases h1
          · exact ⟨a,b,hX.2 0 a x rfl rfl,hY.2 0 b y rfl rfl,hs⟩
    unfold flatN at h
    split at h
    · rename_i hu
      simp only [Option.some.injEq] at h
      obtain ⟨a,b,h1,h2,hs⟩:=leaf _ (by simp [tAgg,hu]) h.symm
      cases a <;> cases b <;> simp only [scalarEq,Option.some.injEq,reduceCtorEq] at hs
      cases h1;cases h2;subst hs;exact run_equalIn_bool hu _ _ _
    · rename_i hu
      simp only [Option.some.injEq] at h
      obtain ⟨a,b,h1,h2,hs⟩:=leaf _ (by simp [tAgg,hu]) h.symm
      cases a <;> cases b <;> simp only [scalarEq,reduceCtorEq] at hs
      cases h1;cases h2
      split at hs
      · rename_i hk;subst hk;simp only [Option.some.injEq] at hs;subst hs;exact run_equalIn_int w _ t _ _ _ _ hu
      · cases hs
    · rename_i hu
      simp only [Option.some.injEq] at h
      obtain ⟨a,b,h1,h2,hs⟩:=leaf _ (by simp [tAgg,hu]) h.symm
      cases a <;> cases b <;> simp only [scalarEq,Option.some.injEq,reduceCtorEq] at hs
      cases h1;cases h2
      subst hs
      rw [show D' + (d + 1) = D' + d + 1 from rfl,run_equalIn_string w _ t _ _ hu];simp
    · rename_i fs hu
      split at h
      · cases h
      · rename_i hst
        have hg:tAgg P t = some true:=by simp [tAgg,hu]
        rcases hx with ⟨_,rfl⟩ | ⟨h1,_⟩
        · rcases hy with ⟨_,rfl⟩ | ⟨h1,_⟩
          · have hfo:P.fieldsOf t = fs:=by simp [Program.fieldsOf,hu]
            have hrun:=run_equalIn_struct (P:=P) w (D' + d) t X.toArray Y.toArray (by rw [hfo];exact hu) (by simpa using hst)
            rw [show D' + (d + 1) = D' + d + 1 from rfl,hrun,hfo]
            exact flatFs_sound (fun t n=>flatN_leaf) (fun t n h as bs X Y x y r=>ih t n h D' as bs X Y x y r) as bs X Y hX hY fs.toList 0 n r h (by simpa using hr)
          · rw [hg] at h1;cases h1
        · rw [hg] at h1;cases h1
    · cases h
end
end Am
namespace Am
open Go
def Good (P:Program) (gt:Nat→Option (List D)) (η:Operand→Value) (o:Oper) (H:St) (L:Lay) (w:World) (u:HV) (H':St):Prop:=
  ∃ (r:Next) (v:Value) (w':World) (L':Lay),(execOp η o).run P w = .ok r w' ∧ (r = .value v ∨ (r = .skip ∧ v = undef)) ∧
    Ext L.φ.length L H.tips w L' H'.tips w' ∧ Sim gt H' L' w' ∧ VRel L' H'.tips w' u v
theorem Ext.refl (n:Nat) (L:Lay) (tips:List Nat) (w:World):Ext n L tips w L tips w:=
  ⟨.refl _ _,fun _ _=>rfl,fun _ k h=>⟨k,h,Nat.le_refl _,fun _=>rfl⟩,Nat.le_refl _,rfl,rfl,rfl,Nat.le_refl _,fun _ _=>rfl,fun _ _=>rfl,rfl⟩
section
variable {P:Program} {gt:Nat→Option (List D)} {L:Lay} {H H':St} {w:World} {η:Operand→Value} {ρ:HO→Option HV} {o:Oper} {u:HV} {hop:HOp} {call:CallT}
theorem Good.same {v:Value} (S:Sim gt H L w) (hr:(execOp η o).run P w = .ok (.value v) w) (hv:VRel L H.tips w u v):Good P gt η o H L w u H:=
  ⟨_,v,w,L,hr,.inl rfl,.refl _ _ _ _,S,hv⟩
theorem map_pair {α:Type} {x:Option α} {f:α→HV} (h:x.map (fun a=>(f a,H)) = some (u,H')):∃ a,x = some a ∧ u = f a ∧ H' = H:=by
  cases x with
  | none=>simp at h
  | some a=>simp only [Option.map_some,Option.some.injEq,Prod.mk.injEq] at h;exact ⟨a,rfl,h.1.symm,h.2.symm⟩
theorem map_mk {α β:Type} {x:Option α} {f:α→β} {b:β} (h:x.map f = some b):∃ a,x = some a ∧ b = f a:=by
  cases x with
  | none=>simp at h
  | some a=>simp only [Option.map_some,Option.some.injEq] at h;exact ⟨a,rfl,h.symm⟩
variable (S:Sim gt H L w) (R:Opnds gt L H.tips w η ρ) (h:stepOp call ρ H hop = some (u,H'))
include S R h
theorem g_move {x:Operand} (ho:o.op = .move x ∨ o.op = .assign x) (hc:(cO gt x).map HOp.move = some hop):Good P gt η o H L w u H':=by
  obtain ⟨y,hy,rfl⟩:=map_mk hc
  obtain ⟨a,ha,rfl,rfl⟩:=map_pair (f:=id) h
  refine .same S ?_ (R x y _ hy ha)
  rcases ho with ho | ho <;> simp [execOp,ho]
theorem g_pick {c a b:Operand} (ho:o.op = .pick c a b) (hc:cOp P gt (.pick c a b) = some hop):Good P gt η o H L w u H':=by
  simp only [cOp] at hc
  split at hc
  · rename_i c' a' b' h1 h2 h3
    simp only [Option.some.injEq] at hc
    subst hc
    simp only [stepOp] at h
    split at h
    · rename_i t ht
      have hcv:=(R c c' _ h1 ht).bool_inv
      cases t with
      | true=>
        obtain ⟨v,hv,rfl,rfl⟩:=map_pair (f:=id) h
        exact .same S (by simp [execOp,ho,hcv,asBool]) (R a a' _ h2 hv)
      | false=>
        obtain ⟨v,hv,rfl,rfl⟩:=map_pair (f:=id) h
        exact .same S (by simp [execOp,ho,hcv,asBool]) (R b b' _ h3 hv)
    · cases h
  · cases hc
theorem g_nilCheck {x:Operand} (ho:o.op = .nilCheck x) (hc:(cO gt x).map HOp.nilCheck = some hop):Good P gt η o H L w u H':=by
  obtain ⟨y,hy,rfl⟩:=map_mk hc
  simp only [stepOp] at h
  have key:∀ a,ρ y = some a→(∃ p,η x = .pointer (some p)) ∨ (∃ f p q,η x = .func (.func f) p q)→u = a→H' = H→Good P gt η o H L w u H':=by
    rintro a ha hx rfl rfl
    refine .same S ?_ (R x y _ hy ha)
    rcases hx with ⟨p,hp⟩ | ⟨f,p,q,hp⟩ <;> simp [execOp,ho,hp]
  split at h <;> simp only [Option.some.injEq,Prod.mk.injEq,reduceCtorEq] at h
  · rename_i hv
    have hr:=R x y _ hy hv
    exact key _ hv (by generalize η x = v at hr;cases hr;exact .inl ⟨_,rfl⟩) h.1.symm h.2.symm
  · rename_i hv
    have hr:=R x y _ hy hv
    exact key _ hv (by generalize η x = v at hr;cases hr;exact .inl ⟨_,rfl⟩) h.1.symm h.2.symm
  · rename_i hv
    have hr:=R x y _ hy hv
    exact key _ hv (by generalize η x = v at hr;cases hr;exact .inr ⟨_,_,_,rfl⟩) h.1.symm h.2.symm
theorem g_bin1 {op:BinOp} {t t':TypeId} {x y:Operand} {a b:HO} (ho:o.op = .binOp op t x y t') (h1:cO gt x = some a) (h2:cO gt y = some b) (h3:hop = .bin op a b):Good P gt η o H L w u H':=by
  subst h3
  simp only [stepOp] at h
  split at h
  · rename_i ua ub ha hb
    obtain ⟨r,hr,rfl,rfl⟩:=map_pair (f:=id) h
    have va:=R x a _ h1 ha
    obtain ⟨v,hv1,hv2⟩:=evalBin_sound (P:=P) (op:=op) (t:=t) va (R y b _ h2 hb) hr
    refine .same S ?_ hv2
    have hg:(eqGuard op t x y (η x) (η y)).run P w = .ok () w:=by
      unfold evalBin at hr
      split at hr
      · rw [va.int_inv,eqGuard_at_int];rfl
      · rw [va.str_inv,eqGuard_at_string];rfl
      · cases hr
    simp [execOp,ho,hg,hv1]
  · cases h
theorem g_binB {neg:Bool} {t t':TypeId} {x y:Operand} {a b:HO} (ht:P.underlying t = some .bool) (ho:o.op = .binOp (if neg then .neq else .eql) t x y t') (h1:cO gt x = some a) (h2:cO gt y = some b) (h3:hop = .binB neg a b):Good P gt η o H L w u H':=by
  subst h3
  simp only [stepOp] at h
  split at h
  · rename_i ua ub ha hb
    obtain ⟨r,hr,rfl,rfl⟩:=map_pair (f:=id) h
    have va:=R x a _ h1 ha
    obtain ⟨v,hv1,hv2⟩:=evalBinB_sound (P:=P) (neg:=neg) ht va (R y b _ h2 hb) hr
    refine .same S ?_ hv2
    have hg:(eqGuard (if neg then .neq else .eql) t x y (η x) (η y)).run P w = .ok () w:=by
      unfold evalBinB at hr
      split at hr
      · rw [va.bool_inv,eqGuard_at_bool];rfl
      · cases hr
    simp [execOp,ho,hg,hv1]
  · cases h
theorem g_binP {neg:Bool} {t t' e:TypeId} {x y:Operand} {a b:HO} (ht:P.underlying t = some (.pointer e)) (ho:o.op = .binOp (if neg then .neq else .eql) t x y t') (h1:cO gt x = some a) (h2:cO gt y = some b) (h3:hop = .binP neg a b):Good P gt η o H L w u H':=by
  subst h3
  simp only [stepOp] at h
  split at h
  · rename_i ua ub ha hb
    obtain ⟨r,hr,rfl,rfl⟩:=map_pair (f:=id) h
    have va:=R x a _ h1 ha
    obtain ⟨v,hv1,hv2⟩:=evalBinP_sound (P:=P) (neg:=neg) ht va (R y b _ h2 hb) hr
    refine .same S ?_ hv2
    have hg:(eqGuard (if neg then .neq else .eql) t x y (η x) (η y)).run P w = .ok () w:=by
      have hp:∃ p,η x = .pointer p:=by
        unfold evalBinP at hr
        generalize η x = vx at va
        split at hr
        · exact ⟨_,va.nilp_inv⟩
        · cases va;exact ⟨_,rfl⟩
        · exact ⟨_,va.nilp_inv⟩
        · cases hr
      obtain ⟨p,hp⟩:=hp
      rw [hp,eqGuard_at_pointer];rfl
    simp [execOp,ho,hg,hv1]
  · cases h
theorem g_eqAgg {neg:Bool} {t t':TypeId} {x y:Operand} {a b:HO} {ks:List LK} (hk:flatN P 20 t = some ks) (hs:tAgg P t = some true) (hgd:P.eqGuardType P.depth t = false)
    (ho:o.op = .binOp (if neg then .neq else .eql) t x y t') (h1:cO gt x = some a) (h2:cO gt y = some b) (h3:hop = .eqAgg neg ks a b):Good P gt η o H L w u H':=by
  subst h3
  simp only [stepOp] at h
  split at h
  · rename_i ca cb ha hb
    have va:=R x a _ h1 ha
    have vb:=R y b _ h2 hb
    generalize hηx:η x = vx at va
    generalize hηy:η y = vy at vb
    cases va with
    | agg _ X hX=>
      cases vb with
      | agg _ Y hY=>
        split at h
        · rename_i c e hc he
          obtain ⟨r,hr,rfl,rfl⟩:=map_mk h |>.elim (fun r ⟨p,q⟩=>(⟨r,p,by simpa using congrArg Prod.fst q,by simpa using congrArg Prod.snd q⟩:∃ r,cellsEq ks c e = some r ∧ u = _ ∧ H' = H))
          have dX:=hX.toDs hc
          have dY:=hY.toDs he
          have hE:=flat_sound (P:=P) L.I w 20 t ks hk 9980 c e X Y _ _ r dX dY hr (.inl ⟨hs,rfl⟩) (.inl ⟨hs,rfl⟩)
          have hrun:=run_eql_of (P:=P) (t:=t) (x:=.agg X.toArray) (y:=.agg Y.toArray) rfl rfl hE neg
          refine .same S ?_ (.d _ _ (.bool _))
          have hg:(eqGuard (if neg then .neq else .eql) t x y (.agg X.toArray) (.agg Y.toArray)).run P w = .ok () w:=by
            simp only [eqGuard]
            cases neg <;> simp [hgd]
          simp only [execOp,ho,hηx,hηy,Sem.run_bind,hg,Result.andThen_ok,hrun,Sem.run_pure]
        · cases h
  · cases h
theorem g_binOp {op:BinOp} {t t':TypeId} {x y:Operand} (ho:o.op = .binOp op t x y t') (hc:cOp P gt (.binOp op t x y t') = some hop):Good P gt η o H L w u H':=by
  simp only [cOp] at hc
  split at hc
  · rename_i x' y' fs h1 h2 h3
    split at hc
    · cases hc
    · rename_i hg
      have hg':P.eqGuardType P.depth t = false:=by simpa using hg
      have hs:tAgg P t = some true:=by simp [tAgg,h3]
      split at hc <;> simp only [Option.some.injEq,reduceCtorEq] at hc
      · rename_i ks hk;exact g_eqAgg (neg:=false) S R h hk hs hg' ho h1 h2 hc.symm
      · rename_i ks hk;exact g_eqAgg (neg:=true) S R h hk hs hg' ho h1 h2 hc.symm
  · rename_i h1 h2 h3;simp only [Option.some.injEq] at hc;exact g_bin1 S R h ho h1 h2 hc.symm
  · rename_i h1 h2 h3;simp only [Option.some.injEq] at hc;exact g_bin1 S R h ho h1 h2 hc.symm
  · rename_i h1 h2 h3
    split at hc <;> simp only [Option.some.injEq,reduceCtorEq] at hc
    · exact g_binB (neg:=false) S R h h3 ho h1 h2 hc.symm
    · exact g_binB (neg:=true) S R h h3 ho h1 h2 hc.symm
  · rename_i h1 h2 h3
    split at hc <;> simp only [Option.some.injEq,reduceCtorEq] at hc
    · exact g_binP (neg:=false) S R h h3 ho h1 h2 hc.symm
    · exact g_binP (neg:=true) S R h h3 ho h1 h2 hc.symm
  · cases hc
theorem g_unOp {op:UnOp} {t:TypeId} {x:Operand} (ho:o.op = .unOp op t x) (hc:(cO gt x).map (HOp.un op) = some hop):Good P gt η o H L w u H':=by
  obtain ⟨y,hy,rfl⟩:=map_mk hc
  simp only [stepOp] at h
  split at h
  · rename_i a ha
    obtain ⟨r,hr,rfl,rfl⟩:=map_pair (f:=id) h
    obtain ⟨v,hv1,hv2⟩:=evalUn_sound (P:=P) (R x y _ hy ha) hr
    exact .same S (by simp [execOp,ho,hv1]) hv2
  · cases h
theorem g_extract {x:Operand} {i:Nat} (ho:o.op = .extract x i) (hc:(cO gt x).map (HOp.extract · i) = some hop):Good P gt η o H L w u H':=by
  obtain ⟨y,hy,rfl⟩:=map_mk hc
  simp only [stepOp] at h
  split at h
  · rename_i vs hv
    obtain ⟨r,hr,rfl,rfl⟩:=map_pair (f:=id) h
    have hx:=R x y _ hy hv
    generalize hη:η x = vx at hx
    cases hx with
    | tup _ X hX=>
      obtain ⟨v,hv1,hv2⟩:=hX.get i hr
      refine .same S ?_ hv2
      simp [execOp,ho,hη,Instr.extract,hv1]
  · cases h
theorem g_makeFunc {f:FuncId} {a b:Array Operand} (ho:o.op = .makeFunc (.func f) a b) (hc:cOp P gt (.makeFunc (.func f) a b) = some hop):Good P gt η o H L w u H':=by
  simp only [cOp] at hc
  split at hc
  · rename_i a' b' h1 h2
    simp only [Option.some.injEq] at hc
    subst hc
    simp only [stepOp] at h
    split at h
    · rename_i ua ub ha hb
      simp only [Option.some.injEq,Prod.mk.injEq] at h
      obtain ⟨rfl,rfl⟩:=h
      have va:=opnds_list R _ _ _ h1 ha
      have vb:=opnds_list R _ _ _ h2 hb
      have hv:=VRel.fn f _ _ _ _ va vb
      refine .same S ?_ hv
      simp only [execOp,ho,Instr.makeFunc,Sem.run_bind,Sem.run_pure,Result.andThen_ok,← Array.toList_map,Array.toArray_toList]
    · cases h
  · cases hc
theorem g_fieldAddr {s:TypeId} {x:Operand} {f:Nat} (ho:o.op = .fieldAddr s x f) (hc:cOp P gt (.fieldAddr s x f) = some hop):Good P gt η o H L w u H':=by
  simp only [cOp] at hc
  split at hc
  · rename_i fs x' h1 h2
    split at hc
    · rename_i fd hf
      obtain ⟨n,hn,rfl⟩:=map_mk hc
      obtain ⟨i,hi,hin,hn0⟩:=size_inv hn
      have hsz:=fun w=>run_sizeOf hi (P:=P) w
      have hne:¬ i.size = 0:=by omega
      have hrun:∀ b off,η x = .pointer (some ⟨b,off,none⟩)→(execOp η o).run P w = .ok (.value (.pointer (some ⟨b,off + fd.offset,none⟩))) w:=by
        intro b off hx
        simp [execOp,ho,hx,Instr.fieldAt,run_underlying h1,hf,Instr.sureAddr,fieldPlace,hsz,hne,Addr.add_lit]
      simp only [stepOp] at h
      split at h
      · rename_i o' f' hv
        simp only [Option.some.injEq,Prod.mk.injEq] at h
        obtain ⟨rfl,rfl⟩:=h
        have hx:=R x x' _ h2 hv
        generalize hη:η x = vx at hx
        cases hx with
        | ref _ _ b hb=>exact .same S (hrun _ _ hη) (.ref _ _ _ hb)
      · rename_i cs hv
        split at h
        · rename_i hle
          simp only [Option.some.injEq,Prod.mk.injEq] at h
          obtain ⟨rfl,rfl⟩:=h
          have hx:=R x x' _ h2 hv
          generalize hη:η x = vx at hx
          cases hx with
          | iref _ b off hb=>exact .same S (hrun _ _ hη) (.iref _ _ _ (hb.drop _ hle))
        · cases h
      · cases h
    · cases hc
  · cases hc
theorem g_field {s:TypeId} {x:Operand} {f:Nat} (ho:o.op = .field s x f) (hc:cOp P gt (.field s x f) = some hop):Good P gt η o H L w u H':=by
  simp only [cOp] at hc
  split at hc
  · rename_i fs x' h1 h2
    split at hc
    · rename_i fd hf
      split at hc
      · rename_i n g hn hg
        simp only [Option.some.injEq] at hc
        subst hc
        obtain ⟨i,hi,hin,hn0⟩:=size_inv hn
        simp only [stepOp] at h
        split at h
        · rename_i cs hv
          split at h
          · rename_i hle
            obtain ⟨r,hr,rfl,rfl⟩:=map_pair (f:=id) h
            have hx:=R x x' _ h2 hv
            generalize hη:η x = vx at hx
            cases hx with
            | agg _ X hX=>
              have hl:=hX.length
              have h1g:g = false→n = 1:=by
                intro hgf
                subst hgf
                unfold mkV at hr
                simp only [Bool.false_eq_true,if_false] at hr
                split at hr
                · rename_i hh
                  have:=congrArg List.length hh
                  simp at this
                  omega
                · cases hr
              obtain ⟨v,hv1,hv2⟩:=run_part hi hin X (off:=fd.offset) (by omega) g hg h1g w
              have hrel:=mkV_rel ((hX.drop fd.offset).take n) hr
              refine .same S (v:=v) (by simp [execOp,ho,hη,Instr.field,run_underlying h1,hf,asAgg,hv1]) ?_
              rcases hv2 with ⟨e1,rfl⟩ | ⟨e1,e2⟩
              · rw [hg] at e1;cases e1;simpa using hrel
              · rw [hg] at e1;cases e1;rw [e2] at hrel;simpa using hrel
          · cases h
        · cases h
      · cases hc
    · cases hc
  · cases hc
theorem g_index {t:TypeId} {x i:Operand} (ho:o.op = .index t x i) (hc:cOp P gt (.index t x i) = some hop):Good P gt η o H L w u H':=by
  simp only [cOp] at hc
  split at hc
  · rename_i x' i' h1 h2 h3
    simp only [Option.some.injEq] at hc
    subst hc
    simp only [stepOp] at h
    split at h
    · rename_i s k n hs hn
      have hx:=(R x x' _ h2 hs).str_inv
      have hi:=(R i i' _ h3 hn).int_inv
      split at h
      · rename_i h0
        split at h
        · rename_i b hb
          simp only [Option.some.injEq,Prod.mk.injEq] at h
          obtain ⟨rfl,rfl⟩:=h
          refine .same S ?_ (.d _ _ (.int _ _))
          have hb':(ByteArray.mk s.toArray)[n.toNat]? = some b:=by
            have hlt:=lt_of_getElem? hb
            have hlt':n.toNat < (ByteArray.mk s.toArray).size:=by rw [size_mk];exact hlt
            rw [getElem?_pos (ByteArray.mk s.toArray) n.toNat hlt']
            exact congrArg some ((List.getElem_eq_iff hlt).2 hb)
          simp [execOp,ho,hx,hi,Instr.index,run_underlying h1,asIntOf,h0,hb']
        · cases h
      · cases h
    · cases h
  · cases hc
theorem g_indexAddr {t:TypeId} {x i:Operand} (ho:o.op = .indexAddr t x i) (hc:cOp P gt (.indexAddr t x i) = some hop):Good P gt η o H L w u H':=by
  simp only [cOp] at hc
  split at hc
  · rename_i m e x' i' h1 h2 h3
    obtain ⟨n,hn,rfl⟩:=map_mk hc
    obtain ⟨ti,hti,htn,hn0⟩:=size_inv hn
    have hsz:=fun w=>run_sizeOf hti (P:=P) w
    have hrun:∀ b off k q,η x = .pointer (some ⟨b,off,none⟩)→η i = .int k q→0 ≤ q→q < (m:Int)→(execOp η o).run P w = .ok (.value (.pointer (some ⟨b,off + q.toNat * n,none⟩))) w:=by
      intro b off k q hx hi h0 hlt
      simp [execOp,ho,hx,hi,Instr.indexAt,run_underlying h1,asIntOf,Instr.sureAddr,h0,hlt,hsz,htn,Addr.add_lit]
    simp only [stepOp] at h
    split at h
    · rename_i o' f' k q hx hi
      split at h
      · rename_i hq
        simp only [Option.some.injEq,Prod.mk.injEq] at h
        obtain ⟨rfl,rfl⟩:=h
        have vx:=R x x' _ h2 hx
        have vi:=(R i i' _ h3 hi).int_inv
        generalize hη:η x = v at vx
        cases vx with
        | ref _ _ b hb=>exact .same S (hrun _ _ _ _ hη vi hq.1 hq.2) (.ref _ _ _ hb)
      · cases h
    · rename_i cs k q hx hi
      split at h
      · rename_i hq
        simp only [Option.some.injEq,Prod.mk.injEq] at h
        obtain ⟨rfl,rfl⟩:=h
        have vx:=R x x' _ h2 hx
        have vi:=(R i i' _ h3 hi).int_inv
        generalize hη:η x = v at vx
        cases vx with
        | iref _ b off hb=>exact .same S (hrun _ _ _ _ hη vi hq.1 hq.2.1) (.iref _ _ _ (hb.drop _ hq.2.2))
      · cases h
    · cases h
  · rename_i e x' i' h1 h2 h3
    obtain ⟨n,hn,rfl⟩:=map_mk hc
    obtain ⟨ti,hti,htn,hn0⟩:=size_inv hn
    have hsz:=fun w=>run_sizeOf hti (P:=P) w
    have hrun:∀ b off len cap k q,η x = .slice (some ⟨b,off,none⟩) len cap→η i = .int k q→0 ≤ q→q < (len:Int)→(execOp η o).run P w = .ok (.value (.pointer (some ⟨b,off + q.toNat * n,none⟩))) w:=by
      intro b off len cap k q hx hi h0 hlt
      simp [execOp,ho,hx,hi,Instr.indexAt,run_underlying h1,asIntOf,h0,hlt,hsz,htn,Addr.add_lit]
    simp only [stepOp] at h
    split at h
    · rename_i uv k q hx hi
      have vx:=R x x' _ h2 hx
      have vi:=(R i i' _ h3 hi).int_inv
      split at h
      · rename_i h0
        have rows:∀ rows:List (List D),DRel L.I w (.sl rows) (η x)→(match rows[q.toNat]? with | some r=>if r.length = n then some (HV.iref r,H) else none | none=>none) = some (u,H')→Good P gt η o H L w u H':=by
          intro rows hd hh
          split at hh
          · rename_i r hr
            split at hh
            · rename_i hrl
              simp only [Option.some.injEq,Prod.mk.injEq] at hh
              obtain ⟨rfl,rfl⟩:=hh
              have hlt:=lt_of_getElem? hr
              rcases drel_sl.1 hd with ⟨rfl,_⟩ | ⟨b,off,cap,sz,hxe,hcap,hall,hcr⟩
              · simp at hr
              · have hsn:sz = n:=by rw [← hall r (List.mem_of_getElem? hr),hrl]
                subst hsn
                have hcr':CellsRel L.I w b (off + q.toNat * sz) r:=hcr.row hall hr
                exact .same S (hrun _ _ _ _ _ _ hxe vi h0 (by omega)) (.iref _ _ _ hcr')
            · cases hh
          · cases hh
        split at h
        · cases vx with | d _ _ hd=>exact rows _ hd h
        · cases vx with | own _ _ _ hd _=>exact rows _ hd h
        · split at h
          · rename_i hq
            simp only [Option.some.injEq,Prod.mk.injEq] at h
            obtain ⟨rfl,rfl⟩:=h
            generalize hη:η x = v at vx
            cases vx with
            | row _ _ _ _ b cap hb hcap=>exact .same S (hrun _ _ _ _ _ _ hη vi h0 hq.1) (.ref _ _ _ hb)
          · cases h
        · cases h
      · cases h
    · cases h
  · cases hc
end
end Am
