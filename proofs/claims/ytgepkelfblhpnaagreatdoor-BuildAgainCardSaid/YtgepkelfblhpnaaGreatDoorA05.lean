/- A part of the proof of BuildAgain: no condition of its own. Whence: AmOps5, AmMem. -/
import Derived.Test.YtgepkelfblhpnaaGreatDoorA04
set_option linter.all false
namespace Am
open Go
section
variable {P:Program} {gt:Nat→Option (List D)} {L:Lay} {H H':St} {w:World} {η:Operand→Value} {ρ:HO→Option HV} {o:Oper} {u:HV} {hop:HOp} {call:CallT} {tips:List Nat}
theorem entry_part {I:Nat→Nat} {g:Bool} {cs:List D} {v:Value} {t:TypeId} (h:EntryRel I w g cs v) (ht:tAgg P t = some g):∃ X,DCells I w cs X ∧ IsPart P t X v:=by
  unfold EntryRel at h
  cases g with
  | true=>
    simp only [if_true] at h
    obtain ⟨vs,rfl,hl,hr⟩:=h
    refine ⟨vs,⟨hl.symm,fun k x q hx hq=>?_⟩,.inl ⟨ht,rfl⟩⟩
    obtain ⟨z,hz1,hz2⟩:=hr k x hx
    rw [hq] at hz1;cases hz1;exact hz2
  | false=>
    simp only [Bool.false_eq_true,if_false] at h
    obtain ⟨x,rfl,hx⟩:=h
    refine ⟨[v],⟨rfl,fun k y q hy hq=>?_⟩,.inr ⟨ht,rfl⟩⟩
    cases k with
    | zero=>simp at hy hq;subst hy;subst hq;exact hx
    | succ k=>simp at hy
theorem key_entry {kv:HV} {v:Value} {g:Bool} {key:List D} (h:VRel L tips w kv v) (hg:kv.isAgg = g) (hk:toDs kv.cells = some key):EntryRel L.I w g key v:=by
  unfold EntryRel
  subst hg
  have hc:=h.cells.toDs hk
  cases h with
  | agg cs vs h=>
    simp only [HV.isAgg,if_true]
    have hc':=h.toDs hk
    refine ⟨vs,rfl,hc'.1.symm,fun k x hx=>?_⟩
    have hlt:=lt_of_getElem? hx
    exact ⟨vs[k]'(by rw [← hc'.1];exact hlt),by simp,hc'.2 k x _ hx (by simp)⟩
  | tup cs vs h=>simp [HV.cells,toDs,HV.toD] at hk
  | d x v h=>simp only [HV.isAgg,Bool.false_eq_true,if_false];simp only [HV.cells,toDs,HV.toD,Option.some.injEq] at hk;exact ⟨x,hk.symm,h⟩
  | own rows t v h h'=>simp only [HV.isAgg,Bool.false_eq_true,if_false];simp only [HV.cells,toDs,HV.toD,Option.some.injEq] at hk;exact ⟨_,hk.symm,h⟩
  | ref=>simp [HV.cells,toDs,HV.toD] at hk
  | row=>simp [HV.cells,toDs,HV.toD] at hk
  | map=>simp [HV.cells,toDs,HV.toD] at hk
  | iref=>simp [HV.cells,toDs,HV.toD] at hk
  | fn=>simp [HV.cells,toDs,HV.toD] at hk
theorem entry_val {g:Bool} {cs:List D} {v:Value} {r:HV} (h:EntryRel L.I w g cs v) (hm:mkV g (dcells cs) = some r):VRel L tips w r v:=by
  unfold EntryRel at h
  cases g with
  | true=>
    simp only [if_true] at h
    obtain ⟨vs,rfl,hl,hr⟩:=h
    simp only [mkV,if_true,Option.some.injEq] at hm
    subst hm
    refine .agg _ _ (.mk_dcells hl.symm fun k x q hx hq=>?_)
    obtain ⟨z,hz1,hz2⟩:=hr k x hx
    rw [hq] at hz1;cases hz1;exact hz2
  | false=>
    simp only [Bool.false_eq_true,if_false] at h
    obtain ⟨x,rfl,hx⟩:=h
    simp only [mkV,dcells,List.map_cons,List.map_nil,Bool.false_eq_true,if_false,Option.some.injEq] at hm
    subst hm
    exact .d _ _ hx
theorem checkKey_sound (I:Nat→Nat) (w:World) (e:Bool):∀ (d:Nat) (t:TypeId) (ks:List LK),flatN P d t = some ks→∀ (D':Nat) (as:List D) (X:List Value) (v:Value),
    DCells I w as X→as.length = ks.length→IsPart P t X v→(Instr.checkKey e (D' + d) t v).run P w = .ok () w:=by
  intro d
  induction d with
  | zero=>intro t n h;cases h
  | succ d ih=>
    intro t ks h D' as X v hX hl hv
    rw [show D' + (d + 1) = D' + d + 1 from rfl]
    unfold flatN at h
    split at h
    · rename_i hu;simp [Instr.checkKey,run_underlying hu]
    · rename_i hu;simp [Instr.checkKey,run_underlying hu]
    · rename_i hu;simp [Instr.checkKey,run_underlying hu]
    · rename_i fs hu
      have hg:tAgg P t = some true:=by simp [tAgg,hu]
      rcases hv with ⟨_,rfl⟩ | ⟨h1,_⟩
      · split at h
        · cases h
        · simp only [Instr.checkKey,Sem.run_bind,run_underlying hu,Result.andThen_ok]
          rw [← Array.forIn_toList]
          clear hu
          have key:∀ (fl:List Field) (off:Nat) (ks':List LK),flatFs P (flatN P d) fl off = some ks'→off + ks'.length ≤ as.length →
              (forIn fl PUnit.unit (fun f _=>do
                if f.name ≠ "_" then Instr.checkKey e (D' + d) f.type (← part f.type X.toArray f.offset)
                pure (ForInStep.yield PUnit.unit):Field→PUnit→Sem (ForInStep PUnit))).run P w = .ok PUnit.unit w:=by
            intro fl
            induction fl with
            | nil=>intro off ks' _ _;simp
            | cons f fl ihf=>
              intro off ks' h hle
              simp only [flatFs] at h
              split at h
              · rename_i hf
                simp only [Bool.and_eq_true,bne_iff_ne,beq_iff_eq] at hf
                obtain ⟨hname,hoff⟩:=hf
                split at h
                · rename_i n hn
                  split at h
                  · rename_i hsz
                    obtain ⟨ks'',hks,rfl⟩:=map_mk h
                    simp only [List.length_append] at hle
                    obtain ⟨i,hi,hin,_⟩:=size_inv hsz
                    obtain ⟨g,hgf,hg1⟩:=flatN_leaf hn
                    have hXl:X.length = as.length:=hX.1.symm
                    obtain ⟨q,hq1,hq2⟩:=run_part hi hin X (off:=off) (by omega) g hgf hg1 w
                    have hck:=ih f.type n hn D' _ _ q (hX.sub off n.length) (by simp;omega) hq2
                    rw [List.forIn_cons]
                    simp only [ne_eq,hname,not_false_eq_true,if_true,Sem.run_bind,hoff,hq1,hck,Result.andThen_ok,Sem.run_pure]
                    have:=ihf (off + n.length) ks'' hks (by omega)
                    simpa using this
                  · cases h
                · cases h
              · cases h
          have:=key fs.toList 0 ks h (by omega)
          simp at this ⊢
          simp [this]
      · rw [hg] at h1;cases h1
    · cases h
def FindRel (L:Lay) (w:World) (va:Bool) (r:Option (Nat × List D)) (r':Option (Nat × Value)):Prop:=
  match r,r' with
  | none,none=>True
  | some (i,v),some (j,x)=>i = j ∧ EntryRel L.I w va v x
  | _,_=>False
theorem findAsking_sound {kt:TypeId} {ks:List LK} {d:Nat} (hk:flatN P d kt = some ks) (hd:d ≤ 10000) {ka va:Bool} (hka:tAgg P kt = some ka) {key:List D} {kv:Value} (hkey:EntryRel L.I w ka key kv) :
    ∀ (es:List (List D × List D)) (ents:List MapEntry) (i:Nat) (r:Option (Nat × List D)),es.length = ents.length →
      (∀ (j:Nat) (k v:List D) (e:MapEntry),es[j]? = some (k,v)→ents[j]? = some e→EntryRel L.I w ka k e.key ∧ EntryRel L.I w va v e.val) →
      findKey ks key es i = some r→∃ r',(Instr.findAsking kt kv ents i).run P w = .ok r' w ∧ FindRel L w va r r'
  | [],ents,i,r,hl,_,h=>by
    simp only [findKey,Option.some.injEq] at h
    subst h
    have:ents = []:=List.length_eq_zero_iff.1 hl.symm
    subst this
    exact ⟨none,by simp [Instr.findAsking],trivial⟩
  | (j,v) :: es,ents,i,r,hl,hr,h=>by
    cases ents with
    | nil=>simp at hl
    | cons e ents=>
      obtain ⟨h1,h2⟩:=hr 0 j v e rfl rfl
      obtain ⟨X,dX,pX⟩:=entry_part hkey hka
      obtain ⟨Y,dY,pY⟩:=entry_part h1 hka
      simp only [findKey] at h
      cases hc:cellsEq ks key j with
      | none=>simp [hc] at h
      | some t=>
        have he:(Op.equal kt kv e.key).run P w = .ok t w:=by
          have:=flat_sound (P:=P) L.I w d kt ks hk (10000 - d) key j X Y kv e.key t dX dY hc pX pY
          rwa [Nat.sub_add_cancel hd] at this
        cases t with
        | true=>
          simp only [hc,Option.some.injEq] at h
          subst h
          exact ⟨some (i,e.val),by simp [Instr.findAsking,he],rfl,h2⟩
        | false=>
          simp only [hc] at h
          obtain ⟨r',h3,h4⟩:=findAsking_sound hk hd hka hkey es ents (i + 1) r (by simpa using hl) (fun j k v e hj he=>hr (j + 1) k v e (by simpa using hj) (by simpa using he)) h
          exact ⟨r',by simp [Instr.findAsking,he,h3],h4⟩
theorem leaf_cells {ks:List LK} {d:Nat} {t:TypeId} (hk:flatN P d t = some ks) (hg:tAgg P t = some false) :
    (P.underlying t = some .bool ∧ ks = [.b]) ∨ (∃ k,P.underlying t = some (.int k) ∧ ks = [.i]) ∨ (P.underlying t = some .string ∧ ks = [.s]):=by
  cases d with
  | zero=>cases hk
  | succ d=>
    unfold flatN at hk
    split at hk
    · rename_i hu;simp only [Option.some.injEq] at hk;exact .inl ⟨hu,hk.symm⟩
    · rename_i hu;simp only [Option.some.injEq] at hk;exact .inr (.inl ⟨_,hu,hk.symm⟩)
    · rename_i hu;simp only [Option.some.injEq] at hk;exact .inr (.inr ⟨hu,hk.symm⟩)
    · rename_i hu;simp [tAgg,hu] at hg
    · cases hk
theorem beq_mk (a b:List UInt8):((⟨a.toArray⟩:ByteArray) == ⟨b.toArray⟩) = (a == b):=by
  rw [beq_toListBytes,ByteArray.toList_mk,ByteArray.toList_mk]
theorem findNow_sound {desc:TypeDesc} {k1:LK} {va:Bool} {key:D} {kv:Value} (hkey:DRel L.I w key kv)
    (hdesc:(desc = .bool ∧ k1 = .b) ∨ (∃ k,desc = .int k ∧ k1 = .i) ∨ (desc = .string ∧ k1 = .s)) :
    ∀ (es:List (List D × List D)) (ents:List MapEntry) (i:Nat) (r:Option (Nat × List D)),es.length = ents.length →
      (∀ (j:Nat) (k v:List D) (e:MapEntry),es[j]? = some (k,v)→ents[j]? = some e→EntryRel L.I w false k e.key ∧ EntryRel L.I w va v e.val) →
      findKey [k1] [key] es i = some r→∃ r',Instr.findNow desc kv ents i = some r' ∧ FindRel L w va r r'
  | [],ents,i,r,hl,_,h=>by
    simp only [findKey,Option.some.injEq] at h
    subst h
    have:ents = []:=List.length_eq_zero_iff.1 hl.symm
    subst this
    exact ⟨none,rfl,trivial⟩
  | (j,v) :: es,ents,i,r,hl,hr,h=>by
    cases ents with
    | nil=>simp at hl
    | cons e ents=>
      obtain ⟨h1,h2⟩:=hr 0 j v e rfl rfl
      simp only [EntryRel,Bool.false_eq_true,if_false] at h1
      obtain ⟨x,rfl,hx⟩:=h1
      simp only [findKey,cellsEq] at h
      cases hs:scalarEq k1 key x with
      | none=>simp [hs] at h
      | some t=>
        simp only [hs,Bool.and_true] at h
        have hn:Instr.sameNow desc kv e.key = some t:=by
          rcases hdesc with ⟨rfl,rfl⟩ | ⟨k,rfl,rfl⟩ | ⟨rfl,rfl⟩
          · cases key <;> cases x <;> simp only [scalarEq,Option.some.injEq,reduceCtorEq] at hs
            generalize hq:e.key = q at hx
            cases hkey;cases hx;subst hs;rfl
          · cases key <;> cases x <;> simp only [scalarEq,reduceCtorEq] at hs
            generalize hq:e.key = q at hx
            cases hkey;cases hx
            split at hs
            · rename_i hk;subst hk;simp only [Option.some.injEq] at hs;subst hs;simp [Instr.sameNow]
            · cases hs
          · cases key <;> cases x <;> simp only [scalarEq,Option.some.injEq,reduceCtorEq] at hs
            generalize hq:e.key = q at hx
            cases hkey;cases hx;subst hs;simp [Instr.sameNow,beq_mk]
        cases t with
        | true=>
          simp only [Option.some.injEq] at h
          subst h
          exact ⟨some (i,e.val),by simp [Instr.findNow,hn],rfl,h2⟩
        | false=>
          simp only at h
          obtain ⟨r',h3,h4⟩:=findNow_sound hkey hdesc es ents (i + 1) r (by simpa using hl) (fun j k v e hj he=>hr (j + 1) k v e (by simpa using hj) (by simpa using he)) h
          exact ⟨r',by simp [Instr.findNow,hn,h3],h4⟩
theorem findKey_sound {kt:TypeId} {ks:List LK} (hk:flatN P 20 kt = some ks) {ka va:Bool} (hka:tAgg P kt = some ka) {key:List D} {kv:Value} (hkey:EntryRel L.I w ka key kv)
    (es:List (List D × List D)) (ents:List MapEntry) (r:Option (Nat × List D)) (hl:es.length = ents.length)
    (hr:∀ (j:Nat) (k v:List D) (e:MapEntry),es[j]? = some (k,v)→ents[j]? = some e→EntryRel L.I w ka k e.key ∧ EntryRel L.I w va v e.val)
    (h:findKey ks key es 0 = some r):∃ r',(Instr.findKey kt kv ents).run P w = .ok r' w ∧ FindRel L w va r r':=by
  cases ka with
  | false=>
    simp only [EntryRel,Bool.false_eq_true,if_false] at hkey
    obtain ⟨x,rfl,hx⟩:=hkey
    have main:∀ desc k1,P.underlying kt = some desc→ks = [k1]→((desc = .bool ∧ k1 = .b) ∨ (∃ k,desc = .int k ∧ k1 = .i) ∨ (desc = .string ∧ k1 = .s))→∃ r',(Instr.findKey kt kv ents).run P w = .ok r' w ∧ FindRel L w va r r':=by
      intro desc k1 hu hks hd
      subst hks
      obtain ⟨r',h1,h2⟩:=findNow_sound hx hd es ents 0 r hl hr h
      exact ⟨r',by simp [Instr.findKey,run_underlying hu,h1],h2⟩
    rcases leaf_cells hk hka with ⟨hu,hks⟩ | ⟨k,hu,hks⟩ | ⟨hu,hks⟩
    · exact main _ _ hu hks (.inl ⟨rfl,rfl⟩)
    · exact main _ _ hu hks (.inr (.inl ⟨k,rfl,rfl⟩))
    · exact main _ _ hu hks (.inr (.inr ⟨rfl,rfl⟩))
  | true=>
    obtain ⟨r',h1,h2⟩:=findAsking_sound hk (by omega) hka hkey es ents 0 r hl hr h
    have hu:∃ fs,P.underlying kt = some (.struct fs):=by
      unfold flatN at hk
      split at hk
      · rename_i hu;simp [tAgg,hu] at hka
      · rename_i hu;simp [tAgg,hu] at hka
      · rename_i hu;simp [tAgg,hu] at hka
      · rename_i fs hu;exact ⟨fs,hu⟩
      · cases hk
    obtain ⟨fs,hu⟩:=hu
    cases ents with
    | nil=>
      have:es = []:=List.length_eq_zero_iff.1 hl
      subst this
      simp only [findKey,Option.some.injEq] at h
      subst h
      exact ⟨none,by simp [Instr.findKey,run_underlying hu,Instr.findNow],trivial⟩
    | cons e ents=>
      refine ⟨r',?_,h2⟩
      have hn:Instr.findNow (.struct fs) kv (e :: ents) 0 = none:=by simp [Instr.findNow,Instr.sameNow]
      simp [Instr.findKey,run_underlying hu,hn,h1]
theorem map_rel (S:Sim gt H L w) {mv:HV} {v:Value} {ka0 va0 ka va:Bool} {es:List (List D × List D)} (hv:VRel L H.tips w mv v)
    (h:H.mapOf ka0 va0 mv = some (ka,va,es)) :
    (v = .map none ∧ es = [] ∧ ka = ka0 ∧ va = va0) ∨ ∃ o b ents clock,mv = .map o ∧ v = .map (some b) ∧ L.φ[o]? = some (some b) ∧ (∃ st,H.objs[o]? = some (.map ka va es st) ∧ clock = st.2 ∧ ents.toList.map (·.born) = st.1) ∧ w.heap[b]? = some (.map ents clock) ∧ ents.size = es.length ∧
      ∀ (i:Nat) (k v:List D) (e:MapEntry),es[i]? = some (k,v)→ents[i]? = some e→EntryRel L.I w ka k e.key ∧ EntryRel L.I w va v e.val:=by
  revert hv
  unfold St.mapOf at h
  split at h
  · simp only [Option.some.injEq,Prod.mk.injEq] at h
    obtain ⟨rfl,rfl,rfl⟩:=h
    intro hv
    cases hv with | d _ _ hd=>cases hd;exact .inl ⟨rfl,rfl,rfl,rfl⟩
  · rename_i o
    intro hv
    cases hv with
    | map _ b hb=>
      unfold St.map? at h
      split at h
      · rename_i ka' va' es' st' ho
        simp only [Option.some.injEq,Prod.mk.injEq] at h
        obtain ⟨rfl,rfl,rfl⟩:=h
        obtain ⟨ents,clock,h1,h0,h2,h3⟩:=S.obj o b _ ho hb
        exact .inr ⟨o,b,ents,clock,rfl,rfl,hb,⟨st',ho,h0⟩,h1,h2,h3⟩
      · cases h
  · cases h
theorem zeroE_rel {t:TypeId} {va:Bool} {z:List D} (h:tZeroE P t = some (va,z)):∃ i v,P.info? t = some i ∧ i.zero = some v ∧ EntryRel L.I w va z v:=by
  unfold tZeroE at h
  split at h
  · rename_i i hi
    split at h
    · rename_i v hv
      split at h
      · rename_i q hq
        obtain ⟨c,hc,he⟩:=map_mk h
        simp only [Prod.mk.injEq] at he
        obtain ⟨rfl,rfl⟩:=he
        exact ⟨i,v,hi,hv,key_entry (tips:=[]) (zVal_rel hq) rfl hc⟩
      · cases h
    · cases h
  · cases h
theorem run_getObj_map {b:Nat} {ents:Array MapEntry} {clock:Nat} (h:w.heap[b]? = some (.map ents clock)):(getObj b).run P w = .ok (.map ents clock) w:=by
  simp [getObj,Sem.run,h]
section
variable (S:Sim gt H L w) (R:Opnds gt L H.tips w η ρ) (h:stepOp call ρ H hop = some (u,H'))
include S R h
theorem g_lookup {t:TypeId} {m k:Operand} {ok:Bool} (ho:o.op = .lookup t m k ok) (hc:cOp P gt (.lookup t m k ok) = some hop):Good P gt η o H L w u H':=by
  simp only [cOp] at hc
  split at hc
  · rename_i kt vt m' k' h1 h2 h3
    split at hc
    · rename_i ka va z hka hz
      split at hc
      · rename_i ks hks
        simp only [Option.some.injEq] at hc
        subst hc
        simp only [stepOp] at h
        split at h
        · rename_i mv kv hm hk
          have vm:=R m m' _ h2 hm
          have vk:=R k k' _ h3 hk
          split at h
          · rename_i hkagg
            split at h
            · rename_i ka' va' es key hes hkey
              split at h
              · rename_i hcond
                obtain ⟨rfl,rfl,hkl⟩:=hcond
                have ek:=key_entry vk hkagg hkey
                obtain ⟨X,dX,pX⟩:=entry_part ek hka
                have hck:=fun e=>checkKey_sound (P:=P) L.I w e 20 kt ks hks 9980 key X (η k) dX hkl pX
                have hck':∀ e,(Instr.checkKey e 10000 kt (η k)).run P w = .ok () w:=fun e=>hck e
                obtain ⟨zi,zv,hzi,hzv,hzr⟩:=zeroE_rel (P:=P) (L:=L) (w:=w) hz
                have hzero:=run_zeroValue (P:=P) hzi hzv w
                cases hf:findKey ks key es 0 with
                | none=>simp [hf] at h
                | some r=>
                  have fin:∀ (v:Value) (b:Bool) (cs:List D),EntryRel L.I w va' cs v→(execOp η o).run P w = .ok (.value (if ok then .tuple #[v,.bool b] else v)) w →
                      ((mkV va' (dcells cs)).map fun x=>(if ok then HV.tup [x,.d (.bool b)] else x,H)) = some (u,H')→Good P gt η o H L w u H':=by
                    intro v b cs hv hrun hh
                    obtain ⟨x,hx,rfl,rfl⟩:=map_pair hh
                    refine .same S hrun ?_
                    cases ok with
                    | true=>exact .tup [_,_] [_,_] (.cons _ _ _ _ (entry_val hv hx) (.one (.d _ _ (.bool _))))
                    | false=>exact entry_val hv hx
                  rcases map_rel S vm hes with ⟨hmv,rfl,_,_⟩ | ⟨o',b,ents,clock,_,hmv,_,_,h4,h5,h6⟩
                  · simp only [findKey,Option.some.injEq] at hf
                    subst hf
                    obtain ⟨r',hr1,hr2⟩:=findKey_sound (P:=P) (va:=va') hks hka ek [] [] none rfl (fun j k v e hj=>by simp at hj) rfl
                    cases r' with
                    | some _=>exact hr2.elim
                    | none=>
                      simp only [findKey] at h
                      refine fin zv false z hzr ?_ h
                      cases ok <;> simp [execOp,ho,Instr.lookup,run_underlying h1,hmv,hck',hr1,hzero]
                  · obtain ⟨r',hr1,hr2⟩:=findKey_sound (P:=P) (va:=va') hks hka ek es ents.toList r (by simp [h5]) (fun j k v e hj he=>h6 j k v e hj (by simpa using he)) hf
                    cases r with
                    | none=>
                      cases r' with
                      | some _=>exact hr2.elim
                      | none=>
                        simp only [hf] at h
                        refine fin zv false z hzr ?_ h
                        cases ok <;> simp [execOp,ho,Instr.lookup,run_underlying h1,hmv,run_getObj_map h4,hck',hr1,hzero]
                    | some p=>
                      obtain ⟨i,v⟩:=p
                      cases r' with
                      | none=>exact hr2.elim
                      | some q=>
                        obtain ⟨j,x⟩:=q
                        simp only [hf] at h
                        refine fin x true v hr2.2 ?_ h
                        cases ok <;> simp [execOp,ho,Instr.lookup,run_underlying h1,hmv,run_getObj_map h4,hck',hr1]
              · cases h
            · cases h
          · cases h
        · cases h
      · cases hc
    · cases hc
  · cases hc
end
end
end Am
namespace Am
open Go
section
variable {P:Program} {gt:Nat→Option (List D)} {L L':Lay} {H H':St} {w w':World} {tips tips':List Nat}
theorem cell_heap {w w':World} {b:Nat} (h:w'.heap[b]? = w.heap[b]?) (off:Nat):w'.cell? ⟨b,off,none⟩ = w.cell? ⟨b,off,none⟩:=by
  unfold World.cell?
  simp only [h]
theorem Ext.stays (e:Ext L.φ.length L tips w L' tips' w'):Stays L tips w L' tips' w':=
  ⟨e.grow,fun o b h=>by rw [e.φ o (lt_of_getElem? h)];exact h,e.tips,e.base⟩
theorem Ext.trans {n:Nat} {L'':Lay} {tips'':List Nat} {w'':World} (e:Ext n L tips w L' tips' w') (e':Ext n L' tips' w' L'' tips'' w''):Ext n L tips w L'' tips'' w'' where
  grow:=e.grow.trans e'.grow
  φ:=fun o ho=>by rw [e'.φ o ho,e.φ o ho]
  tips:=fun t k hk=>by
    obtain ⟨k',h1,h2,h3⟩:=e.tips t k hk
    obtain ⟨k'',h4,h5,h6⟩:=e'.tips t k' h1
    exact ⟨k'',h4,Nat.le_trans h2 h5,fun hk'=>by rw [h6 (by omega),h3 (by omega)]⟩
  size:=Nat.le_trans e.size e'.size
  tape:=e'.tape.trans e.tape
  os:=e'.os.trans e.os
  output:=e'.output.trans e.output
  drawn:=Nat.le_trans e.drawn e'.drawn
  old:=fun b hb=>(e'.old b (by rw [e.base];exact hb)).trans (e.old b hb)
  base:=e'.base.trans e.base
  pc:=fun o ho=>(e'.pc o ho).trans (e.pc o ho)
theorem Ext.weaken {n m:Nat} (h:m ≤ n) (e:Ext n L tips w L' tips' w'):Ext m L tips w L' tips' w':=
  { e with φ:=fun o ho=>e.φ o (by omega),pc:=fun o ho=>e.pc o (by omega) }
structure SameMem (w w':World):Prop where
  heap:w'.heap = w.heap
  tape:w'.tape = w.tape
  os:w'.os = w.os
  output:w'.output = w.output
  drawn:w.drawn ≤ w'.drawn
theorem SameMem.refl (w:World):SameMem w w:=⟨rfl,rfl,rfl,rfl,Nat.le_refl _⟩
theorem SameMem.drew (w:World):SameMem w w.drew:=⟨rfl,rfl,rfl,rfl,by simp⟩
theorem SameMem.cell (s:SameMem w w') (a:Addr):w'.cell? a = w.cell? a:=by
  unfold World.cell?
  rw [s.heap]
theorem SameMem.grows (s:SameMem w w') (I:Nat→Nat):Grows I w I w':=⟨fun _=>Nat.le_refl _,fun _ _ _=>s.cell _⟩
theorem SameMem.ext (s:SameMem w w') (n:Nat) (L:Lay) (tips:List Nat):Ext n L tips w L tips w':=
  ⟨s.grows _,fun _ _=>rfl,fun _ k h=>⟨k,h,Nat.le_refl _,fun _=>rfl⟩,by rw [s.heap];exact Nat.le_refl _,s.tape,s.os,s.output,s.drawn,fun b _=>by rw [s.heap],fun _ _=>rfl,rfl⟩
theorem SameMem.stays (s:SameMem w w') (L:Lay) (tips:List Nat):Stays L tips w L tips w':=(s.ext L.φ.length L tips).stays
theorem EntryRel.grow {I I':Nat→Nat} (g:Grows I w I' w') {a:Bool} {cs:List D} {v:Value} (h:EntryRel I w a cs v):EntryRel I' w' a cs v:=by
  unfold EntryRel at *
  split
  · rename_i ha
    rw [if_pos ha] at h
    obtain ⟨vs,h1,h2,h3⟩:=h
    exact ⟨vs,h1,h2,fun k x hx=>let ⟨u,hu,hd⟩:=h3 k x hx;⟨u,hu,hd.grow g⟩⟩
  · rename_i ha
    rw [if_neg ha] at h
    obtain ⟨x,h1,h2⟩:=h
    exact ⟨x,h1,h2.grow g⟩
theorem ObjRel.move (s:Stays L tips w L' tips' w') {b:Nat} (hb:w'.heap[b]? = w.heap[b]?) {x:Obj} (h:ObjRel L tips w b x):ObjRel L' tips' w' b x:=by
  cases x with
  | cells c=>obtain ⟨vs,elem,h1,h2⟩:=h;exact ⟨vs,elem,h1.move hb,h2.move s⟩
  | map ka va es st=>obtain ⟨ents,clock,h1,h0,h2,h3⟩:=h;exact ⟨ents,clock,by rw [hb];exact h1,h0,h2,fun i k v e hi he=>⟨(h3 i k v e hi he).1.grow s.g,(h3 i k v e hi he).2.grow s.g⟩⟩
  | iter t pos=>exact (show w'.heap[b]? = _ by rw [hb];exact h)
  | dead=>trivial
theorem Sim.same (S:Sim gt H L w) (s:SameMem w w'):Sim gt H L w' where
  glob:=fun g cs h=>(S.glob g cs h).grow (s.grows _)
  nobj:=S.nobj
  ntip:=S.ntip
  obj:=fun o b x h1 h2=>(S.obj o b x h1 h2).move (s.stays _ _) (by rw [s.heap])
  pend:=S.pend
  tip:=fun t n b sz cap h1 h2=>tip_move (S.tip t n b sz cap h1 h2) rfl (by rw [s.heap])
  tip0:=S.tip0
  inj:=S.inj
  tinj:=S.tinj
  disj:=S.disj
  objI:=fun o b h=>by rw [s.heap];exact S.objI o b h
  fresh:=fun b h=>S.fresh b (by rw [s.heap] at h;exact h)
  young:=S.young
  baseLe:=by rw [s.heap];exact S.baseLe
theorem Sim.tipLt (S:Sim gt H L w) {t n b sz cap:Nat} (h1:H.tips[t]? = some n) (h:L.τ[t]? = some (some (b,sz,cap))):b < w.heap.size:=by
  obtain ⟨_,_,cs,elem,hh,_⟩:=S.tip t n b sz cap h1 h
  exact hh.lt
theorem Sim.ownedLt (S:Sim gt H L w) {b:Nat} (h:Owned L b):b < w.heap.size:=by
  rcases h with ⟨o,h⟩ | ⟨t,s,c,h⟩
  · exact (S.objI o b h).2
  · have hlt:t < H.tips.length:=by rw [← S.ntip];exact lt_of_getElem? h
    exact S.tipLt (List.getElem?_eq_getElem hlt) h
structure NewBlock (w w':World) (q:Go.Obj):Prop where
  size:w'.heap.size = w.heap.size + 1
  old:∀ b,b < w.heap.size→w'.heap[b]? = w.heap[b]?
  new:w'.heap[w.heap.size]? = some q
  tape:w'.tape = w.tape
  os:w'.os = w.os
  output:w'.output = w.output
  drawn:w.drawn ≤ w'.drawn
theorem NewBlock.alloc (w:World) (q:Go.Obj):NewBlock w (w.alloc q) q:=
  ⟨by simp,fun _ h=>heap_alloc_old w q _ h,heap_alloc_new w q,rfl,rfl,rfl,Nat.le_refl _⟩
theorem NewBlock.after {w0:World} {q:Go.Obj} (s:SameMem w w0) (n:NewBlock w0 w' q):NewBlock w w' q:=
  ⟨by rw [n.size,s.heap],fun b h=>by rw [n.old b (by rw [s.heap];exact h),s.heap],by have:=n.new;rw [s.heap] at this;exact this,by rw [n.tape,s.tape],by rw [n.os,s.os],by rw [n.output,s.output],Nat.le_trans s.drawn n.drawn⟩
def Lay.withI (L:Lay) (b n:Nat):Lay:={ L with I:=fun c=>if c = b then n else L.I c }
theorem Sim.growsAlloc (S:Sim gt H L w) {q:Go.Obj} (nb:NewBlock w w' q) (n:Nat):Grows L.I w (L.withI w.heap.size n).I w':=by
  refine ⟨fun b=>?_,fun b off ho=>?_⟩
  · simp only [Lay.withI]
    split
    · rename_i hb;rw [S.fresh b (by omega)];exact Nat.zero_le _
    · exact Nat.le_refl _
  · have hb:b < w.heap.size:=by
      rcases Nat.lt_or_ge b w.heap.size with h | h
      · exact h
      · rw [S.fresh b h] at ho;omega
    exact cell_heap (nb.old b hb) off
theorem Sim.extAlloc (S:Sim gt H L w) {q:Go.Obj} (nb:NewBlock w w' q) (n m:Nat):Ext m L tips w (L.withI w.heap.size n) tips w' where
  grow:=S.growsAlloc nb n
  φ:=fun _ _=>rfl
  tips:=fun _ k h=>⟨k,h,Nat.le_refl _,fun _=>rfl⟩
  size:=by rw [nb.size];omega
  tape:=nb.tape
  os:=nb.os
  output:=nb.output
  drawn:=nb.drawn
  old:=fun b hb=>nb.old b (Nat.lt_of_lt_of_le hb S.baseLe)
  base:=rfl
  pc:=fun _ _=>rfl
theorem Sim.alloc (S:Sim gt H L w) {q:Go.Obj} (nb:NewBlock w w' q) (n:Nat):Sim gt H (L.withI w.heap.size n) w':=by
  have e:=S.extAlloc (tips:=H.tips) nb n L.φ.length
  have hI:∀ b,b < w.heap.size→(L.withI w.heap.size n).I b = L.I b:=fun b hb=>by simp only [Lay.withI];rw [if_neg (by omega)]
  exact {
    glob:=fun g cs h=>(S.glob g cs h).grow e.grow
    nobj:=S.nobj
    ntip:=S.ntip
    obj:=fun o b x h1 h2=>(S.obj o b x h1 h2).move e.stays (nb.old b (S.objI o b h2).2)
    pend:=S.pend
    tip:=fun t k b sz cap h1 h2=>by
      have hb:=S.tipLt h1 h2
      exact tip_move (S.tip t k b sz cap h1 h2) (hI b hb) (nb.old b hb)
    tip0:=S.tip0
    inj:=S.inj
    tinj:=S.tinj
    disj:=S.disj
    objI:=fun o b h=>by
      obtain ⟨h1,h2⟩:=S.objI o b h
      exact ⟨by rw [hI b h2];exact h1,by rw [nb.size];omega⟩
    fresh:=fun b hb=>by
      rw [nb.size] at hb
      simp only [Lay.withI]
      rw [if_neg (by omega)]
      exact S.fresh b (by omega)
    young:=S.young
    baseLe:=by rw [nb.size];exact Nat.le_trans S.baseLe (Nat.le_succ _) }
def Lay.addObj (L:Lay) (b:Nat):Lay:={ L with φ:=L.φ ++ [some b] }
theorem getElem?_snoc {α:Type} {l:List α} {x y:α} {i:Nat} (h:(l ++ [x])[i]? = some y):l[i]? = some y ∨ (i = l.length ∧ y = x):=by
  rcases Nat.lt_or_ge i l.length with hi | hi
  · rw [List.getElem?_append_left hi] at h;exact .inl h
  · rw [List.getElem?_append_right hi] at h
    have:i - l.length = 0:=by have:=lt_of_getElem? h;simp at this;omega
    rw [this] at h
    simp at h
    exact .inr ⟨by omega,h.symm⟩
theorem Lay.stays_addObj (L:Lay) (b:Nat) (tips:List Nat) (w:World):Stays L tips w (L.addObj b) tips w:=
  ⟨.refl _ _,fun o b' h=>by simp only [Lay.addObj];rw [List.getElem?_append_left (lt_of_getElem? h)];exact h,fun _ k h=>⟨k,h,Nat.le_refl _,fun _=>rfl⟩,rfl⟩
theorem Sim.addObj (S:Sim gt H L w) {b:Nat} {x:Obj} (hb:b < w.heap.size) (hbb:L.base ≤ b) (hI:L.I b = 0) (ho:¬ Owned L b) (hx:ObjRel L H.tips w b x):Sim gt (H.alloc x) (L.addObj b) w where
  glob:=S.glob
  nobj:=by simp [Lay.addObj,St.alloc,S.nobj]
  ntip:=S.ntip
  obj:=fun o b' y h1 h2=>by
    rcases getElem?_snoc h2 with h | ⟨rfl,h⟩
    · have hlt:o < H.objs.length:=by rw [← S.nobj];exact lt_of_getElem? h
      simp only [St.alloc] at h1
      rw [List.getElem?_append_left hlt] at h1
      exact (S.obj o b' y h1 h).move (L.stays_addObj b _ _) rfl
    · simp only [Option.some.injEq] at h
      subst h
      simp only [St.alloc] at h1
      rw [S.nobj,List.getElem?_append_right (Nat.le_refl _)] at h1
      simp at h1
      subst h1
      exact hx.move (L.stays_addObj b' _ _) rfl
  pend:=fun o h2=>by
    rcases getElem?_snoc h2 with h | ⟨_,h⟩
    · have hlt:o < H.objs.length:=by rw [← S.nobj];exact lt_of_getElem? h
      simp only [St.alloc]
      rw [List.getElem?_append_left hlt]
      exact S.pend o h
    · cases h
  tip:=S.tip
  tip0:=S.tip0
  inj:=fun i j b' h1 h2=>by
    rcases getElem?_snoc h1 with h3 | ⟨rfl,h3⟩ <;> rcases getElem?_snoc h2 with h4 | ⟨rfl,h4⟩
    · exact S.inj i j b' h3 h4
    · simp only [Option.some.injEq] at h4;subst h4;exact absurd (.inl ⟨i,h3⟩) ho
    · simp only [Option.some.injEq] at h3;subst h3;exact absurd (.inl ⟨j,h4⟩) ho
    · rfl
  tinj:=S.tinj
  disj:=fun i j b' s c h1 h2=>by
    rcases getElem?_snoc h1 with h3 | ⟨rfl,h3⟩
    · exact S.disj i j b' s c h3 h2
    · simp only [Option.some.injEq] at h3;subst h3;exact ho (.inr ⟨j,s,c,h2⟩)
  objI:=fun o b' h=>by
    rcases getElem?_snoc h with h3 | ⟨rfl,h3⟩
    · exact S.objI o b' h3
    · simp only [Option.some.injEq] at h3;subst h3;exact ⟨hI,hb⟩
  fresh:=S.fresh
  young:=fun c hc=>by
    rcases hc with ⟨o,h⟩ | h
    · rcases getElem?_snoc h with h3 | ⟨_,h3⟩
      · exact S.young c (.inl ⟨o,h3⟩)
      · simp only [Option.some.injEq] at h3;subst h3;exact hbb
    · exact S.young c (.inr h)
  baseLe:=S.baseLe
def Lay.addTip (L:Lay) (e:Option (Nat × Nat × Nat)):Lay:={ L with τ:=L.τ ++ [e] }
theorem Lay.stays_addTip (L:Lay) (e:Option (Nat × Nat × Nat)) (tips:List Nat) (k:Nat) (w:World) (hl:L.τ.length = tips.length):Stays L tips w (L.addTip e) (tips ++ [k]) w:=
  ⟨.refl _ _,fun o b' h=>h,fun t k' h=>⟨k',by rw [List.getElem?_append_left (lt_of_getElem? h)];exact h,Nat.le_refl _,fun _=>by
    simp only [Lay.addTip]
    rw [List.getElem?_append_left (by rw [hl];exact lt_of_getElem? h)]⟩,rfl⟩
def St.addTip (H:St) (k:Nat):St:={ H with tips:=H.tips ++ [k] }
theorem Sim.addTip (S:Sim gt H L w) (k:Nat) (e:Option (Nat × Nat × Nat)) (he:match e with
      | none=>k = 0
      | some (b,sz,cap)=>¬ Owned L b ∧ L.base ≤ b ∧ L.I b = k * sz ∧ k ≤ cap ∧ ∃ cs elem,RowAt w b cs elem ∧ cs.size = cap * sz):Sim gt (H.addTip k) (L.addTip e) w where
  glob:=S.glob
  nobj:=S.nobj
  ntip:=by simp [Lay.addTip,St.addTip,S.ntip]
  obj:=fun o b x h1 h2=>(S.obj o b x h1 h2).move (L.stays_addTip e H.tips k w S.ntip) rfl
  pend:=S.pend
  tip:=fun t n b sz cap h1 h2=>by
    rcases getElem?_snoc h2 with h | ⟨rfl,h⟩
    · have hlt:t < H.tips.length:=by rw [← S.ntip];exact lt_of_getElem? h
      simp only [St.addTip] at h1
      rw [List.getElem?_append_left hlt] at h1
      exact S.tip t n b sz cap h1 h
    · subst h
      simp only [St.addTip] at h1
      rw [S.ntip,List.getElem?_append_right (Nat.le_refl _)] at h1
      simp at h1
      subst h1
      exact he.2.2
  tip0:=fun t n h1 h2=>by
    rcases getElem?_snoc h2 with h | ⟨rfl,h⟩
    · have hlt:t < H.tips.length:=by rw [← S.ntip];exact lt_of_getElem? h
      simp only [St.addTip] at h1
      rw [List.getElem?_append_left hlt] at h1
      exact S.tip0 t n h1 h
    · subst h
      simp only [St.addTip] at h1
      rw [S.ntip,List.getElem?_append_right (Nat.le_refl _)] at h1
      simp at h1
      subst h1
      exact he
  inj:=S.inj
  tinj:=fun i j b s c s' c' h1 h2=>by
    rcases getElem?_snoc h1 with h3 | ⟨rfl,h3⟩ <;> rcases getElem?_snoc h2 with h4 | ⟨rfl,h4⟩
    · exact S.tinj i j b s c s' c' h3 h4
    · subst h4;exact absurd (.inr ⟨i,s,c,h3⟩) he.1
    · subst h3;exact absurd (.inr ⟨j,s',c',h4⟩) he.1
    · rfl
  disj:=fun i j b s c h1 h2=>by
    rcases getElem?_snoc h2 with h3 | ⟨rfl,h3⟩
    · exact S.disj i j b s c h1 h3
    · subst h3;exact he.1 (.inl ⟨i,h1⟩)
  objI:=S.objI
  fresh:=S.fresh
  young:=fun c hc=>by
    rcases hc with h | ⟨t,s,c',h⟩
    · exact S.young c (.inl h)
    · rcases getElem?_snoc h with h3 | ⟨_,h3⟩
      · exact S.young c (.inr ⟨t,s,c',h3⟩)
      · subst h3;exact he.2.1
  baseLe:=S.baseLe
theorem Sim.newObj (S:Sim gt H L w) {q:Go.Obj} (nb:NewBlock w w' q) (x:Obj) (n:Nat) (hn:n ≤ L.φ.length) (hx:ObjRel L H.tips w' w.heap.size x) :
    ∃ L',Ext n L H.tips w L' (H.alloc x).tips w' ∧ Sim gt (H.alloc x) L' w' ∧ L'.φ[H.objs.length]? = some (some w.heap.size) ∧ L'.τ = L.τ ∧ L'.I = (L.withI w.heap.size 0).I:=by
  have S1:=S.alloc nb 0
  have e1:=S.extAlloc (tips:=H.tips) nb 0 L.φ.length
  have hno:¬ Owned (L.withI w.heap.size 0) w.heap.size:=fun h=>Nat.lt_irrefl _ (S.ownedLt h)
  have hI0:(L.withI w.heap.size 0).I w.heap.size = 0:=by simp [Lay.withI]
  have hx':ObjRel (L.withI w.heap.size 0) H.tips w' w.heap.size x:=by
    refine ObjRel.move (w:=w') ⟨⟨e1.grow.mono,fun b off _=>rfl⟩,fun o b h=>h,fun _ k h=>⟨k,h,Nat.le_refl _,fun _=>rfl⟩,rfl⟩ rfl hx
  refine ⟨(L.withI w.heap.size 0).addObj w.heap.size,?_,S1.addObj (by rw [nb.size];omega) S.baseLe hI0 hno hx',?_,rfl,rfl⟩
  · exact {
      grow:=e1.grow
      φ:=fun o ho=>by simp only [Lay.addObj,Lay.withI];rw [List.getElem?_append_left (by omega)]
      tips:=fun _ k h=>⟨k,h,Nat.le_refl _,fun _=>rfl⟩
      size:=e1.size
      tape:=nb.tape
      os:=nb.os
      output:=nb.output
      drawn:=nb.drawn
      old:=fun c hc=>nb.old c (Nat.lt_of_lt_of_le hc S.baseLe)
      base:=rfl
      pc:=fun _ _=>rfl }
  · simp only [Lay.addObj,Lay.withI]
    rw [← S.nobj,List.getElem?_append_right (Nat.le_refl _)]
    simp
theorem Sim.newTip (S:Sim gt H L w) {cs:Array Value} {elem:TypeId} (nb:NewBlock w w' (.cells cs elem)) (k sz cap n:Nat) (hcap:k ≤ cap) (hsz:cs.size = cap * sz) :
    ∃ L',Ext n L H.tips w L' (H.addTip k).tips w' ∧ Sim gt (H.addTip k) L' w' ∧ L'.τ[H.tips.length]? = some (some (w.heap.size,sz,cap)) ∧ L'.φ = L.φ ∧
      L'.I w.heap.size = k * sz:=by
  have S1:=S.alloc nb (k * sz)
  have e1:=S.extAlloc (tips:=H.tips) nb (k * sz) n
  have hno:¬ Owned (L.withI w.heap.size (k * sz)) w.heap.size:=fun h=>Nat.lt_irrefl _ (S.ownedLt h)
  have hI0:(L.withI w.heap.size (k * sz)).I w.heap.size = k * sz:=by simp [Lay.withI]
  refine ⟨(L.withI w.heap.size (k * sz)).addTip (some (w.heap.size,sz,cap)),?_,S1.addTip k _ ⟨hno,S.baseLe,hI0,hcap,cs,elem,.of nb.new,hsz⟩,?_,rfl,hI0⟩
  · exact {
      grow:=e1.grow
      φ:=fun o _=>rfl
      tips:=fun t k' h=>⟨k',by simp only [St.addTip];rw [List.getElem?_append_left (lt_of_getElem? h)];exact h,Nat.le_refl _,fun _=>by
        simp only [Lay.addTip,Lay.withI]
        rw [List.getElem?_append_left (by rw [S.ntip];exact lt_of_getElem? h)]⟩
      size:=e1.size
      tape:=nb.tape
      os:=nb.os
      output:=nb.output
      drawn:=nb.drawn
      old:=fun c hc=>nb.old c (Nat.lt_of_lt_of_le hc S.baseLe)
      base:=rfl
      pc:=fun _ _=>rfl }
  · simp only [Lay.addTip,Lay.withI]
    rw [← S.ntip,List.getElem?_append_right (Nat.le_refl _)]
    simp
end
end Am
