/- A part of the proof of BuildAgain: no condition of its own. Whence: AmMap1, AmKind1. -/
import Derived.Test.YtgepkelfblhpnaaGreatDoorA26
set_option linter.all false
namespace Am
open Go C
structure KK (κ:Type) where
  agg:Bool
  ks:List LK
  enc:κ→List D
def kS:KK Str:=⟨false,[.s],fun s=>[.str s]⟩
def kC:KK Clk:=⟨true,[.i,.s],fun c=>[.int .i64 c.kind,.str c.name]⟩
class KOk {κ:Type} [DecidableEq κ] (k:KK κ):Prop where
  eq:∀ a b,cellsEq k.ks (k.enc a) (k.enc b) = some (decide (a = b))
  len:∀ a,(k.enc a).length = k.ks.length
instance:KOk kS:=⟨fun a b=>by simp only [kS,cellsEq,scalarEq,Bool.and_true];by_cases h:a = b <;> simp [h],fun _=>rfl⟩
instance:KOk kC:=⟨fun a b=>by
  cases a;cases b
  simp only [kC,cellsEq,scalarEq,Bool.and_true,if_true,Clk.mk.injEq,Option.some.injEq]
  rename_i a1 a2 b1 b2
  by_cases h1:a1 = b1 <;> by_cases h2:a2 = b2 <;> simp [h1,h2],fun _=>rfl⟩
section
variable {κ:Type} [DecidableEq κ]
abbrev Ents (κ:Type):=List (κ × List D)
def getM (es:Ents κ) (a:κ):Option (List D):=(es.find? fun p=>decide (a = p.1)).map (·.2)
def putM:Ents κ→κ→List D→Ents κ
  | [],a,v=>[(a,v)]
  | (b,w) :: es,a,v=>if a = b then (a,v) :: es else (b,w) :: putM es a v
def encM (k:KK κ) (es:Ents κ):List (List D × List D):=es.map fun p=>(k.enc p.1,p.2)
def keysM (es:Ents κ):List κ:=es.map (·.1)
theorem getM_nil (a:κ):getM [] a = none:=rfl
theorem getM_put (es:Ents κ) (a b:κ) (v:List D):getM (putM es a v) b = if b = a then some v else getM es b:=by
  induction es with
  | nil=>
    simp only [putM,getM,List.find?_cons,List.find?_nil]
    by_cases h:b = a <;> simp [h]
  | cons p es ih=>
    obtain ⟨c,w⟩:=p
    simp only [putM]
    split
    · rename_i h
      subst h
      simp only [getM,List.find?_cons]
      by_cases h:b = a <;> simp [h]
    · rename_i h
      simp only [getM,List.find?_cons] at ih ⊢
      by_cases h2:b = c
      · subst h2
        simp [Ne.symm h]
      · simp only [h2,decide_false]
        exact ih
theorem putM_keys (es:Ents κ) (a:κ) (v:List D):∀ b,b ∈ keysM (putM es a v) ↔ b = a ∨ b ∈ keysM es:=by
  intro b
  induction es with
  | nil=>simp [putM,keysM]
  | cons p es ih=>
    obtain ⟨c,w⟩:=p
    simp only [putM]
    split
    · rename_i h;subst h;simp [keysM]
    · simp only [keysM,List.map_cons,List.mem_cons] at ih ⊢
      rw [ih]
      constructor
      · rintro (h | h | h) <;> simp [h]
      · rintro (h | h | h) <;> simp [h]
theorem putM_nodup (es:Ents κ) (a:κ) (v:List D) (h:(keysM es).Nodup):(keysM (putM es a v)).Nodup:=by
  induction es with
  | nil=>simp [putM,keysM]
  | cons p es ih=>
    obtain ⟨c,w⟩:=p
    simp only [putM]
    split
    · rename_i h2;subst h2;exact h
    · rename_i h2
      have hk:=putM_keys es a v c
      simp only [keysM,List.map_cons,List.nodup_cons] at h ih hk ⊢
      refine ⟨?_,ih h.2⟩
      rw [hk]
      rintro (h3 | h3)
      · exact h2 h3.symm
      · exact h.1 h3
theorem find_enc (k:KK κ) [hk:KOk k] (a:κ):∀ (es:Ents κ) (i:Nat),findKey k.ks (k.enc a) (encM k es) i = some ((es.findIdx? fun p=>decide (a = p.1)).bind fun j=>(getM es a).map fun v=>(i + j,v)):=by
  intro es
  induction es with
  | nil=>intro i;rfl
  | cons p es ih=>
    intro i
    obtain ⟨c,w⟩:=p
    simp only [encM,List.map_cons,findKey,hk.eq]
    by_cases h:a = c
    · simp [h,List.findIdx?_cons,getM]
    · simp only [h,decide_false]
      have:=ih (i + 1)
      simp only [encM] at this
      rw [this]
      simp only [List.findIdx?_cons,h,decide_false,getM,List.find?_cons]
      cases List.findIdx? (fun p:κ × List D=>decide (a = p.1)) es with
      | none=>rfl
      | some j=>simp;cases List.find? (fun p:κ × List D=>decide (a = p.1)) es <;> simp;omega
def mapO (k:KK κ) (va:Bool) (es:Ents κ) (st:List Nat × Nat):Obj:=.map k.agg va (encM k es) st
def putT (es:Ents κ) (a:κ) (st:List Nat × Nat):List Nat × Nat:=if (getM es a).isSome then st else (st.1 ++ [st.2],st.2 + 1)
theorem find_none_iff (es:Ents κ) (a:κ):(es.findIdx? fun p=>decide (a = p.1)) = none ↔ getM es a = none:=by
  induction es with
  | nil=>simp [getM]
  | cons p es ih=>
    simp only [List.findIdx?_cons,getM,List.find?_cons] at ih ⊢
    by_cases h:a = p.1
    · simp [h]
    · simp only [h,decide_false]
      rw [← ih];simp
theorem put_idx (k:KK κ) (es:Ents κ) (a:κ) (v:List D):match es.findIdx? fun p=>decide (a = p.1) with
    | some i=>encM k (putM es a v) = (encM k es).set i (k.enc a,v)
    | none=>encM k (putM es a v) = encM k es ++ [(k.enc a,v)]:=by
  induction es with
  | nil=>rfl
  | cons p es ih=>
    obtain ⟨c,w⟩:=p
    simp only [List.findIdx?_cons,putM]
    by_cases h:a = c
    · subst h;simp [encM]
    · simp only [h,decide_false,if_false]
      generalize List.findIdx? (fun p:κ × List D=>decide (a = p.1)) es = q at ih
      cases q with
      | none=>simpa [encM] using ih
      | some i=>simpa [encM] using ih
end
section
variable {κ:Type} [DecidableEq κ]
variable {p:HProg} {e:Env} {H:St}
def env2 (a b c:HV):Env:=[(0,a),(1,b),(2,c)]
theorem env2_0 (a b c:HV):evalO (env2 a b c) (.slot 0) = some a:=rfl
theorem env2_1 (a b c:HV):evalO (env2 a b c) (.slot 1) = some b:=rfl
theorem env2_2 (a b c:HV):evalO (env2 a b c) (.slot 2) = some c:=rfl
def kL1 (e:Env) (H:St) (z:List D) (va ka:Bool) (ks:List LK) (x:HO) (ok:Bool) (K:HV→St→Prop) (mv:HV):Prop:=
  WX (evalO e x) fun kv=>WX (stepOp noCall (evalO (env2 mv kv mv)) H (.lookup z va ka ks (.slot 0) (.slot 1) ok)) (kPure K)
def kL2 (H:St) (z:List D) (va ka:Bool) (ks:List LK) (ok:Bool) (K:HV→St→Prop) (mv kv:HV):Prop:=
  WX (stepOp noCall (evalO (env2 mv kv mv)) H (.lookup z va ka ks (.slot 0) (.slot 1) ok)) (kPure K)
def kL3 (k:KK κ) (H:St) (z:List D) (va:Bool) (a:κ) (ok:Bool) (K:HV→St→Prop):Option Obj→Prop
  | some (.map ka wa es _)=>ka = k.agg ∧ wa = va ∧ WX (findKey k.ks (k.enc a) es 0) fun r=>WX (mkV va (dcells ((r.map (·.2)).getD z))) fun x=>K (if ok then .tup [x,.d (.bool r.isSome)] else x) H
  | _=>False
def kL4 (ok:Bool) (b:Bool) (H:St) (K:HV→St→Prop) (x:HV):Prop:=K (if ok then .tup [x,.d (.bool b)] else x) H
@[go_sem high] theorem wop_lookup2 (z:List D) (va ka:Bool) (ks:List LK) (m x:HO) (ok:Bool) (K:HV→St→Prop):WOp p e H (.lookup z va ka ks m x ok) K = WX (evalO e m) (kL1 e H z va ka ks x ok K):=by
  show WX (stepOp noCall (evalO e) H (.lookup z va ka ks m x ok)) _ = _
  unfold kL1
  simp only [stepOp]
  cases evalO e m with
  | none=>simp [WX]
  | some mv=>
    rw [WX_some]
    cases evalO e x with
    | none=>simp [WX]
    | some kv=>rw [WX_some];rfl
@[go_sem ↓ high] theorem wx_lookup (z:List D) (va ka:Bool) (ks:List LK) (m x:HO) (ok:Bool) (K:HV × St→Prop):WX (stepOp noCall (evalO e) H (.lookup z va ka ks m x ok)) K = WX (evalO e m) (kL1 e H z va ka ks x ok fun v H'=>K (v,H')):=
  wop_lookup2 (p:=⟨fun _=>none,fun _=>none⟩) z va ka ks m x ok fun v H'=>K (v,H')
@[go_sem] theorem kL1_eq (z:List D) (va ka:Bool) (ks:List LK) (x:HO) (ok:Bool) (K:HV→St→Prop) (mv:HV):kL1 e H z va ka ks x ok K mv = WX (evalO e x) (kL2 H z va ka ks ok K mv):=(rfl)
theorem kL2_map (k:KK κ) [hk:KOk k] (z:List D) (va:Bool) (a:κ) (kv:HV) (ok:Bool) (K:HV→St→Prop) (o:Nat) (h1:kv.isAgg = k.agg) (h2:toDs kv.cells = some (k.enc a)) :
    kL2 H z va k.agg k.ks ok K (.map o) kv = kL3 k H z va a ok K H.objs[o]?:=by
  unfold kL2 kL3
  simp only [stepOp,env2_0,env2_1,if_true,h1,h2,St.mapOf,St.map?]
  cases h:H.objs[o]? with
  | none=>simp [WX]
  | some ob=>
    cases ob with
    | map ka wa es st=>
      simp only [hk.len,and_true]
      by_cases h3:ka = k.agg ∧ wa = va
      · rw [if_pos h3]
        obtain ⟨rfl,rfl⟩:=h3
        simp only [true_and]
        cases h4:findKey k.ks (k.enc a) es 0 with
        | none=>simp [WX]
        | some r=>
          rw [WX_some]
          cases r with
          | none=>cases hm:mkV wa (dcells z) <;> cases ok <;> simp [WX,hm,kPure]
          | some r=>cases hm:mkV wa (dcells r.2) <;> cases ok <;> simp [WX,hm,kPure]
      · rw [if_neg h3,WX_none]
        simp only [eq_iff_iff,false_iff]
        rintro ⟨h4,h5,_⟩
        exact h3 ⟨h4,h5⟩
    | _=>simp [WX]
@[go_sem] theorem kL2_str (z:List D) (va:Bool) (s:Str) (ok:Bool) (K:HV→St→Prop) (o:Nat):kL2 H z va false [.s] ok K (.map o) (.d (.str s)) = kL3 kS H z va s ok K H.objs[o]?:=
  kL2_map kS z va s _ ok K o rfl rfl
@[go_sem] theorem kL2_clk (z:List D) (va:Bool) (a:Int) (b:Str) (ok:Bool) (K:HV→St→Prop) (o:Nat):kL2 H z va true [.i,.s] ok K (.map o) (.agg [.d (.int .i64 a),.d (.str b)]) = kL3 kC H z va ⟨a,b⟩ ok K H.objs[o]?:=
  kL2_map kC z va ⟨a,b⟩ _ ok K o rfl rfl
theorem find_get (k:KK κ) [KOk k] (es:Ents κ) (a:κ):∃ r,findKey k.ks (k.enc a) (encM k es) 0 = some r ∧ r.map (·.2) = getM es a:=by
  refine ⟨_,find_enc k a es 0,?_⟩
  cases h:es.findIdx? fun p=>decide (a = p.1) with
  | none=>rw [(find_none_iff es a).1 h];rfl
  | some j=>cases getM es a <;> rfl
theorem kL3_map (k:KK κ) [KOk k] (z:List D) (va:Bool) (a:κ) (ok:Bool) (K:HV→St→Prop) (es:Ents κ) (st:List Nat × Nat):kL3 k H z va a ok K (some (mapO k va es st)) = WX (mkV va (dcells ((getM es a).getD z))) (kL4 ok (getM es a).isSome H K):=by
  obtain ⟨r,h1,h2⟩:=find_get k es a
  simp only [kL3,mapO,true_and,h1,WX_some,h2]
  rw [← h2]
  cases r <;> rfl
@[go_sem] theorem kL3_str (z:List D) (va:Bool) (a:Str) (ok:Bool) (K:HV→St→Prop) (es:Ents Str) (st:List Nat × Nat):kL3 kS H z va a ok K (some (mapO kS va es st)) = WX (mkV va (dcells ((getM es a).getD z))) (kL4 ok (getM es a).isSome H K):=kL3_map kS z va a ok K es st
@[go_sem] theorem kL3_clk (z:List D) (va:Bool) (a:Clk) (ok:Bool) (K:HV→St→Prop) (es:Ents Clk) (st:List Nat × Nat):kL3 kC H z va a ok K (some (mapO kC va es st)) = WX (mkV va (dcells ((getM es a).getD z))) (kL4 ok (getM es a).isSome H K):=kL3_map kC z va a ok K es st
@[go_sem] theorem kL4_true (b:Bool) (K:HV→St→Prop) (x:HV):kL4 true b H K x = K (.tup [x,.d (.bool b)]) H:=(rfl)
@[go_sem] theorem kL4_false (b:Bool) (K:HV→St→Prop) (x:HV):kL4 false b H K x = K x H:=(rfl)
@[go_sem] theorem mkV_one (x:D):mkV false (dcells [x]) = some (.d x):=(rfl)
@[go_sem] theorem mkV_agg (l:List D):mkV true (dcells l) = some (.agg (dcells l)):=(rfl)
def kU1 (e:Env) (H:St) (ka va:Bool) (ks:List LK) (x y:HO) (K:HV→St→Prop) (mv:HV):Prop:=
  WX (evalO e x) fun kv=>WX (evalO e y) fun vv=>WX (stepOp noCall (evalO (env2 mv kv vv)) H (.mapUpdate ka va ks (.slot 0) (.slot 1) (.slot 2))) (kPure K)
def kU2 (e:Env) (H:St) (ka va:Bool) (ks:List LK) (y:HO) (K:HV→St→Prop) (mv kv:HV):Prop:=
  WX (evalO e y) fun vv=>WX (stepOp noCall (evalO (env2 mv kv vv)) H (.mapUpdate ka va ks (.slot 0) (.slot 1) (.slot 2))) (kPure K)
def kU3 (H:St) (ka va:Bool) (ks:List LK) (K:HV→St→Prop) (mv kv vv:HV):Prop:=
  WX (stepOp noCall (evalO (env2 mv kv vv)) H (.mapUpdate ka va ks (.slot 0) (.slot 1) (.slot 2))) (kPure K)
@[go_sem high] theorem wop_mapUpdate2 (ka va:Bool) (ks:List LK) (m x y:HO) (K:HV→St→Prop):WOp p e H (.mapUpdate ka va ks m x y) K = WX (evalO e m) (kU1 e H ka va ks x y K):=by
  show WX (stepOp noCall (evalO e) H (.mapUpdate ka va ks m x y)) _ = _
  unfold kU1
  simp only [stepOp]
  cases evalO e m with
  | none=>simp [WX]
  | some mv=>
    rw [WX_some]
    cases evalO e x with
    | none=>cases mv <;> simp [WX]
    | some kv=>
      rw [WX_some]
      cases evalO e y with
      | none=>cases mv <;> simp [WX]
      | some vv=>rw [WX_some];rfl
@[go_sem] theorem kU1_eq (ka va:Bool) (ks:List LK) (x y:HO) (K:HV→St→Prop) (mv:HV):kU1 e H ka va ks x y K mv = WX (evalO e x) (kU2 e H ka va ks y K mv):=(rfl)
@[go_sem] theorem kU2_eq (ka va:Bool) (ks:List LK) (y:HO) (K:HV→St→Prop) (mv kv:HV):kU2 e H ka va ks y K mv kv = WX (evalO e y) (kU3 H ka va ks K mv kv):=(rfl)
def kU4 (k:KK κ) (H:St) (va:Bool) (a:κ) (o:Nat) (val:List D) (K:HV→St→Prop):Option Obj→Prop
  | some (.map ka wa es st)=>ka = k.agg ∧ wa = va ∧ WX (findKey k.ks (k.enc a) es 0) fun r=>match r with
    | some (i,_)=>K undefV (H.setObj o (.map ka wa (es.set i (k.enc a,val)) st))
    | none=>K undefV (H.setObj o (.map ka wa (es ++ [(k.enc a,val)]) (st.1 ++ [st.2],st.2 + 1)))
  | _=>False
theorem kU3_map (k:KK κ) [hk:KOk k] (va:Bool) (a:κ) (kv vv:HV) (val:List D) (K:HV→St→Prop) (o:Nat) (h1:kv.isAgg = k.agg) (h2:toDs kv.cells = some (k.enc a)) (h3:vv.isAgg = va) (h4:toDs vv.cells = some val) :
    kU3 H k.agg va k.ks K (.map o) kv vv = kU4 k H va a o val K H.objs[o]?:=by
  unfold kU3 kU4
  simp only [stepOp,env2_0,env2_1,env2_2,if_true,h1,h2,h3,h4,and_self]
  cases h:H.objs[o]? with
  | none=>simp [WX]
  | some ob=>
    cases ob with
    | map ka wa es st=>
      simp only [hk.len,and_true]
      by_cases h5:ka = k.agg ∧ wa = va
      · rw [if_pos h5]
        obtain ⟨rfl,rfl⟩:=h5
        simp only [true_and]
        cases h6:findKey k.ks (k.enc a) es 0 with
        | none=>simp [WX]
        | some r=>
          rw [WX_some]
          cases r with
          | none=>simp [WX,kPure]
          | some r=>obtain ⟨i,w⟩:=r;simp [WX,kPure]
      · rw [if_neg h5,WX_none]
        simp only [eq_iff_iff,false_iff]
        rintro ⟨h6,h7,_⟩
        exact h5 ⟨h6,h7⟩
    | _=>simp [WX]
theorem kU4_map (k:KK κ) [KOk k] (va:Bool) (a:κ) (o:Nat) (val:List D) (K:HV→St→Prop) (es:Ents κ) (st:List Nat × Nat):kU4 k H va a o val K (some (mapO k va es st)) = K undefV (H.setObj o (mapO k va (putM es a val) (putT es a st))):=by
  have h1:=find_enc k a es 0
  have h2:=put_idx k es a val
  simp only [kU4,mapO,true_and,h1,WX_some]
  unfold putT
  cases h:es.findIdx? fun p=>decide (a = p.1) with
  | none=>
    rw [h] at h2
    rw [(find_none_iff es a).1 h,h2];rfl
  | some j=>
    rw [h] at h2
    cases h3:getM es a with
    | none=>rw [(find_none_iff es a).2 h3] at h;cases h
    | some v=>rw [h2];simp
@[go_sem] theorem kU3_str (s:Str) (x:D) (K:HV→St→Prop) (o:Nat):kU3 H false false [.s] K (.map o) (.d (.str s)) (.d x) = kU4 kS H false s o [x] K H.objs[o]?:=
  kU3_map kS false s _ _ [x] K o rfl rfl rfl rfl
@[go_sem] theorem kU3_strA (s:Str) (i:Int) (b:Str) (K:HV→St→Prop) (o:Nat):kU3 H false true [.s] K (.map o) (.d (.str s)) (.agg [.d (.int .i64 i),.d (.str b)]) = kU4 kS H true s o [.int .i64 i,.str b] K H.objs[o]?:=
  kU3_map kS true s _ _ _ K o rfl rfl rfl rfl
@[go_sem] theorem kU3_clk (a:Int) (b:Str) (x:D) (K:HV→St→Prop) (o:Nat):kU3 H true false [.i,.s] K (.map o) (.agg [.d (.int .i64 a),.d (.str b)]) (.d x) = kU4 kC H false ⟨a,b⟩ o [x] K H.objs[o]?:=
  kU3_map kC false ⟨a,b⟩ _ _ [x] K o rfl rfl rfl rfl
@[go_sem] theorem kU4_str (va:Bool) (a:Str) (o:Nat) (val:List D) (K:HV→St→Prop) (es:Ents Str) (st:List Nat × Nat):kU4 kS H va a o val K (some (mapO kS va es st)) = K undefV (H.setObj o (mapO kS va (putM es a val) (putT es a st))):=kU4_map kS va a o val K es st
@[go_sem] theorem kU4_clk (va:Bool) (a:Clk) (o:Nat) (val:List D) (K:HV→St→Prop) (es:Ents Clk) (st:List Nat × Nat):kU4 kC H va a o val K (some (mapO kC va es st)) = K undefV (H.setObj o (mapO kC va (putM es a val) (putT es a st))):=kU4_map kC va a o val K es st
@[go_sem] theorem foldS (va:Bool) (st:List Nat × Nat):Obj.map false va [] st = mapO kS va [] st:=(rfl)
@[go_sem] theorem foldC (va:Bool) (st:List Nat × Nat):Obj.map true va [] st = mapO kC va [] st:=(rfl)
end
end Am
namespace Am
open Go C
theorem appendV_any {B:List Obj} {T:List Nat} {lw:Option Nat} {sz:Nat} {f:Bool} {rows ys:List (List D)} (ha:rows.all (·.length == sz) = true) (hn:rows.length + ys.length ≤ roomN) :
    appendV ⟨B,tipC f T rows.length,lw⟩ sz (.own rows (tipB f T sz)) ys = some (.own (rows ++ ys) (tipB (f || !ys.isEmpty) T sz),⟨B,tipC (f || !ys.isEmpty) T (rows ++ ys).length,lw⟩):=by
  by_cases hy:ys = []
  · subst hy;simp [appendV]
  · rw [appendV_tip hy ha hn]
    have:ys.isEmpty = false:=by cases ys <;> simp_all
    simp [this]
def varsS (p:Prog):List Var:=p.ins ++ p.outs ++ p.locals
theorem vars_c (p:Prog) (hp:p.fit) (H:St):CallsA prg 209 [progV p] H (.d (.sl ((varsS p).map encVar))) H:=by
  obtain ⟨hp1,hp2,hp3,hp4,hp5,hp6⟩:=hp
  have hl1:=hp2.1
  have hl2:=hp3.1
  have hl3:=hp4.1
  unfold progV encProg
  simp only [dcells_cons,dcells_nil]
  have ha1:∀ (B:List Obj) (T:List Nat) (lw:Option Nat),appendV ⟨B,T,lw⟩ 4 (.own [] .exact) (p.ins.map encVar) = some (.own (p.ins.map encVar) (tipB (!(p.ins.map encVar).isEmpty) T 4),⟨B,tipC (!(p.ins.map encVar).isEmpty) T p.ins.length,lw⟩):=by
    intro B T lw
    have:=appendV_any (B:=B) (T:=T) (lw:=lw) (sz:=4) (f:=false) (rows:=[]) (ys:=p.ins.map encVar) rfl (by simp [roomN];omega)
    simp only [List.nil_append,List.length_map,Bool.false_or] at this
    exact this
  generalize (!(p.ins.map encVar).isEmpty) = f1 at ha1
  have ha2:∀ (B:List Obj) (T:List Nat) (lw:Option Nat),appendV ⟨B,tipC f1 T p.ins.length,lw⟩ 4 (.own (p.ins.map encVar) (tipB f1 T 4)) (p.outs.map encVar) =
      some (.own ((p.ins ++ p.outs).map encVar) (tipB (f1 || !(p.outs.map encVar).isEmpty) T 4),⟨B,tipC (f1 || !(p.outs.map encVar).isEmpty) T (p.ins.length + p.outs.length),lw⟩):=by
    intro B T lw
    have:=appendV_any (B:=B) (T:=T) (lw:=lw) (sz:=4) (f:=f1) (rows:=p.ins.map encVar) (ys:=p.outs.map encVar) (enc_vars_all _) (by simp [roomN];omega)
    simpa using this
  generalize (f1 || !(p.outs.map encVar).isEmpty) = f2 at ha2
  have ha3:∀ (B:List Obj) (T:List Nat) (lw:Option Nat),appendV ⟨B,tipC f2 T (p.ins.length + p.outs.length),lw⟩ 4 (.own ((p.ins ++ p.outs).map encVar) (tipB f2 T 4)) (p.locals.map encVar) =
      some (.own ((varsS p).map encVar) (tipB (f2 || !(p.locals.map encVar).isEmpty) T 4),⟨B,tipC (f2 || !(p.locals.map encVar).isEmpty) T (varsS p).length,lw⟩):=by
    intro B T lw
    have:=appendV_any (B:=B) (T:=T) (lw:=lw) (sz:=4) (f:=f2) (rows:=(p.ins ++ p.outs).map encVar) (ys:=p.locals.map encVar) (enc_vars_all _) (by simp [roomN];omega)
    simpa [varsS] using this
  generalize (f2 || !(p.locals.map encVar).isEmpty) = f3 at ha3
  have e1:=enc_vars_all p.ins
  have e2:=enc_vars_all p.outs
  have e3:=enc_vars_all p.locals
  refine calls_of2 rfl f209 ?_
  obtain ⟨B,T,lw⟩:=H
  simp only [go_sem,c209,e1,e2,e3,ha1,ha2,ha3]
def ixOf (vs:List Var) (s:Str):Option Nat:=vs.findIdx? fun v=>decide (s = v.name)
def esN (vs:List Var):Nat→Ents Str
  | 0=>[]
  | j + 1=>putM (esN vs j) ((vs[vs.length - 1 - j]?).getD var0).name [.int .i64 ((vs.length - 1 - j:Nat):Int)]
def stN (vs:List Var):Nat→List Nat × Nat
  | 0=>([],0)
  | j + 1=>putT (esN vs j) ((vs[vs.length - 1 - j]?).getD var0).name (stN vs j)
theorem esN_get (vs:List Var) (s:Str):∀ j,j ≤ vs.length→getM (esN vs j) s = ((vs.drop (vs.length - j)).findIdx? fun v=>decide (s = v.name)).map fun i=>[.int .i64 ((vs.length - j + i:Nat):Int)]:=by
  intro j
  induction j with
  | zero=>intro _;simp [esN,getM]
  | succ j ih=>
    intro h
    have hlt:vs.length - 1 - j < vs.length:=by omega
    obtain ⟨v,hv⟩:=at_of_lt hlt
    rw [esN,getM_put,ih (by omega),hv,show vs.length - (j + 1) = vs.length - 1 - j by omega,drop_at hv,List.findIdx?_cons]
    simp only [Option.getD_some]
    by_cases h2:s = v.name
    · simp [h2]
    · simp only [h2,if_false,decide_false,Bool.false_eq_true]
      rw [show vs.length - 1 - j + 1 = vs.length - j by omega]
      cases List.findIdx? (fun v:Var=>decide (s = v.name)) (vs.drop (vs.length - j)) with
      | none=>rfl
      | some i=>simp;omega
def lookE (vs:List Var):Ents Str:=esN vs vs.length
def lookT (vs:List Var):List Nat × Nat:=stN vs vs.length
theorem lookE_get (vs:List Var) (s:Str):getM (lookE vs) s = (ixOf vs s).map fun i=>[.int .i64 (i:Int)]:=by
  rw [lookE,esN_get vs s _ (Nat.le_refl _)]
  simp [ixOf]
def NmI (vs:List Var) (B:List Obj) (T:List Nat) (k:Nat) (e:Env) (H:St):Prop:=
  ∃ (j:Nat),j ≤ vs.length ∧ k = vs.length - j ∧ e = [(0,.d (.sl (vs.map encVar))),(3,.map B.length),(4,.d (.int .i64 ((vs.length:Int) - 1 - j)))] ∧
    H = ⟨B ++ [mapO kS false (esN vs j) (stN vs j)],T,none⟩
theorem names_c (vs:List Var) (hl:vs.length ≤ 5000000) (B:List Obj) (T:List Nat) (lw:Option Nat) :
    CallsA prg 254 [.d (.sl (vs.map encVar))] ⟨B,T,lw⟩ (.map B.length) ⟨B ++ [mapO kS false (lookE vs) (lookT vs)],T,lw⟩:=by
  refine calls_of2 rfl f254 ?_
  have hw:IntKind.i64.wrap ((vs.length:Int) - 1) = (vs.length:Int) - 1:=wrap64 (by omega) (by omega)
  simp only [go_sem,c254,List.length_map,hw,bnd,intOf]
  refine loop_I (NmI vs B T) vs.length ⟨0,Nat.zero_le _,rfl,by simp,rfl⟩ ?_
  rintro k e H ⟨j,hj,rfl,rfl,rfl⟩
  simp only [go_sem,c254l0]
  refine WG_intro (fun h=>?_) fun h=>?_
  · have hlt:j < vs.length:=by simp at h;omega
    have hi:(vs.length:Int) - 1 - j = ((vs.length - 1 - j:Nat):Int):=by omega
    have hlt2:vs.length - 1 - j < vs.length:=by omega
    obtain ⟨v,hv⟩:=at_of_lt hlt2
    have e2:(vs.map encVar)[vs.length - 1 - j]? = some (encVar v):=by simp [hv]
    rw [hi] at h
    rw [hi]
    simp only [go_sem,h,e2,encVar]
    have hw:IntKind.i64.wrap (((vs.length - 1 - j:Nat):Int) - 1) = (vs.length:Int) - 1 - (j + 1:Nat):=by rw [wrap64 (by omega) (by omega)];omega
    refine ⟨vs.length - (j + 1),by omega,j + 1,by omega,rfl,?_,?_⟩
    · rw [hw]
    · simp [esN,stN,hv]
  · have hlt:j = vs.length:=by simp at h;omega
    simp only [go_sem,h]
    rw [hlt];rfl
def LookB (vs:List Var) (o:Nat) (B:List Obj):Prop:=B[o]? = some (mapO kS false (lookE vs) (lookT vs))
def typeOfS (vs:List Var) (s:Str):Int × Bool:=match ixOf vs s with
  | none=>(0,false)
  | some i=>(((vs[i]?).getD var0).ty,true)
def lookV (vs:List Var) (o:Nat):HV:=.agg [.d (.sl (vs.map encVar)),.map o]
theorem ixOf_lt {vs:List Var} {s:Str} {i:Nat} (h:ixOf vs s = some i):i < vs.length:=by
  unfold ixOf at h
  rw [List.findIdx?_eq_some_iff_getElem] at h
  obtain ⟨h1,_⟩:=h
  exact h1
theorem lt_of_some {α:Type} {l:List α} {i:Nat} {x:α} (h:l[i]? = some x):i < l.length:=lt_of_at h
theorem typeOf_c (vs:List Var) (s:Str) (B:List Obj) (T:List Nat) (lw:Option Nat) (o:Nat) (ho:LookB vs o B) :
    CallsA prg 270 [lookV vs o,.d (.str s)] ⟨B,T,lw⟩ (.tup [.d (.int .i64 (typeOfS vs s).1),.d (.bool (typeOfS vs s).2)]) ⟨B,T,lw⟩:=by
  refine calls_of2 rfl f270 ?_
  have hol:=lt_of_some ho
  have h1:∀ X:List Obj,(B ++ X)[o]? = some (mapO kS false (lookE vs) (lookT vs)):=fun X=>by rw [List.getElem?_append_left hol];exact ho
  simp only [go_sem,c270,lookV,h1,lookE_get]
  cases hi:ixOf vs s with
  | none=>
    simp only [go_sem,hi,Option.getD_none,Option.isSome_none]
    simp [typeOfS,hi]
  | some i=>
    have hlt:=ixOf_lt hi
    obtain ⟨v,hv⟩:=at_of_lt hlt
    have e2:(vs.map encVar)[i]? = some (encVar v):=by simp [hv]
    simp only [go_sem,hi,Option.getD_some,Option.isSome_some,e2,encVar]
    simp [typeOfS,hi,hv]
end Am
