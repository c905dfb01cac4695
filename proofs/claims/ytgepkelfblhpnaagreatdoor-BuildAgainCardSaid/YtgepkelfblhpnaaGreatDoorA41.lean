/- A part of the proof of BuildAgain: no condition of its own. Whence: AmReach. -/
import Derived.Test.YtgepkelfblhpnaaGreatDoorA40
import Derived.Test.YtgepkelfblhpnaaGreatDoorA27
set_option linter.all false
namespace Am
open Go Go.Proofs C
set_option maxRecDepth 20000
inductive RF (hit:List UInt8→Bool):List (List D)→Bool→Nat→Prop
  | nil:RF hit [] false 0
  | cons (k x:Int) (nm:List UInt8) (subs rs:List (List D)) (a b:Bool) (i j:Nat):¬ (k = 7 ∧ subs = [])→RF hit (if k = 7 then subs.take 1 else subs) a i→RF hit rs b j →
      RF hit ([.int .i64 k,.int .i32 x,.str nm,.sl subs] :: rs) (hit nm || (a || b)) (i + j + 1)
theorem reachF_rf {hit:List UInt8→Bool}:∀ {n:Nat} {l:List (List D)} {t:Bool} {i:Nat},reachF hit n l = some (t,i)→RF hit l t i
  | n,[],t,i,h=>by
    cases n <;> simp only [reachF,Option.some.injEq,Prod.mk.injEq] at h <;> (obtain ⟨rfl,rfl⟩:=h;exact .nil)
  | 0,r :: rs,t,i,h=>by simp only [reachF] at h;cases h
  | n + 1,r :: rs,t,i,h=>by
    simp only [reachF] at h
    split at h
    · rename_i k x nm subs
      split at h
      · cases h
      · rename_i hne
        split at h
        · rename_i a i' b j h1 h2
          simp only [Option.some.injEq,Prod.mk.injEq] at h
          obtain ⟨rfl,rfl⟩:=h
          exact .cons k x nm subs rs a b i' j hne (reachF_rf h1) (reachF_rf h2)
        · cases h
    · cases h
theorem RF.append {hit:List UInt8→Bool} {xs ys:List (List D)} {a b:Bool} {i j:Nat} (h:RF hit xs a i) (h':RF hit ys b j):RF hit (xs ++ ys) (a || b) (i + j):=by
  induction h with
  | nil=>simpa using h'
  | cons k x nm subs rs a1 b1 i1 j1 h1 h2 h3 _ ih=>
    have:=RF.cons k x nm subs (rs ++ ys) a1 (b1 || b) i1 (j1 + j) h1 h2 ih
    rw [show i1 + j1 + 1 + j = i1 + (j1 + j) + 1 by omega,show (hit nm || (a1 || b1) || b) = (hit nm || (a1 || (b1 || b))) by simp [Bool.or_assoc]]
    exact this
theorem RF.split {hit:List UInt8→Bool} {ys:List (List D)}:∀ {xs:List (List D)} {t:Bool} {i:Nat},RF hit (xs ++ ys) t i→∃ a b i1 i2,RF hit xs a i1 ∧ RF hit ys b i2 ∧ t = (a || b) ∧ i = i1 + i2
  | [],t,i,h=>⟨false,t,0,i,.nil,h,by simp,by omega⟩
  | x :: xs,t,i,h=>by
    generalize hl:x :: xs ++ ys = l at h
    cases h with
    | nil=>cases hl
    | cons k y nm subs rs a b i1 j1 h1 h2 h3=>
      simp only [List.cons_append,List.cons.injEq] at hl
      obtain ⟨rfl,rfl⟩:=hl
      obtain ⟨a',b',i',j',g1,g2,rfl,rfl⟩:=RF.split h3
      exact ⟨_,b',_,j',.cons k y nm subs xs a a' i1 i' h1 h2 g1,g2,by simp [Bool.or_assoc],by omega⟩
theorem RF.len {hit:List UInt8→Bool} {l:List (List D)} {t:Bool} {i:Nat} (h:RF hit l t i):l.length ≤ i:=by
  induction h with
  | nil=>simp
  | cons=>simp only [List.length_cons];omega
theorem RF.four {hit:List UInt8→Bool} {l:List (List D)} {t:Bool} {i:Nat} (h:RF hit l t i):∀ r ∈ l,r.length = 4:=by
  induction h with
  | nil=>simp
  | cons k x nm subs rs a b i j h1 h2 h3 _ ih=>
    intro r hr
    simp only [List.mem_cons] at hr
    rcases hr with rfl | hr
    · rfl
    · exact ih r hr
theorem find_str {es:List (List D × List D)} (h:es.all (fun e=>match e with | ([.str _],[.int .i64 _])=>true | _=>false) = true) (nm:List UInt8):∀ n,∃ r,findKey [.s] [.str nm] es n = some r ∧ ∀ i v,r = some (i,v)→∃ c:Int,v = [.int .i64 c]:=by
  induction es with
  | nil=>exact fun n=>⟨none,rfl,fun i v h=>by cases h⟩
  | cons e es ih=>
    intro n
    simp only [List.all_cons,Bool.and_eq_true] at h
    obtain ⟨h1,h2⟩:=h
    split at h1
    · rename_i s c
      have hce:cellsEq [.s] [.str nm] [.str s] = some (nm == s):=by simp [cellsEq,scalarEq]
      simp only [findKey,hce]
      cases hb:nm == s with
      | true=>exact ⟨_,rfl,fun i v h=>by simp only [Option.some.injEq,Prod.mk.injEq] at h;exact ⟨c,h.2.symm⟩⟩
      | false=>exact ih h2 (n + 1)
    · cases h1
theorem hitM_find {es:List (List D × List D)} {nm:List UInt8} {fr:Option (Nat × List D)} (h:findKey [.s] [.str nm] es 0 = some fr) (hf:∀ i v,fr = some (i,v)→∃ c:Int,v = [.int .i64 c]) :
    ∃ z:Int,hitM es nm = decide (0 < z) ∧ (fr.map (·.2)).getD [.int .i64 0] = [D.int .i64 z]:=by
  cases fr with
  | none=>exact ⟨0,by unfold hitM;rw [h];simp,rfl⟩
  | some p=>
    obtain ⟨i,v⟩:=p
    obtain ⟨c,rfl⟩:=hf i v rfl
    exact ⟨c,by unfold hitM;rw [h],rfl⟩
theorem pre_set {α:Type} {l B:List α} {i:Nat} {y:α} (h:l.take B.length = B) (hi:B.length ≤ i):(l.set i y).take B.length = B:=by
  rw [List.take_set,h,List.set_eq_of_length_le hi]
theorem reachX_inv {args:List HV} {H:St} {r:HV} (h:reachX args H = some r):∃ (o:Nat) (x:HV) (es:List (List D × List D)) (st:List Nat × Nat) (a b c d:D) (t:Bool) (i:Nat),args = [.map o,x] ∧ H.objs[o]? = some (.map false false es st) ∧ shut x = .agg [.d a,.d b,.d c,.d d] ∧
    es.all (fun e=>match e with | ([.str _],[.int .i64 _])=>true | _=>false) = true ∧ RF (hitM es) [[a,b,c,d]] t i ∧ i ≤ 100000 ∧ r = .d (.bool t):=by
  unfold reachX at h
  split at h
  · rename_i o x
    split at h
    · rename_i es st a b c d ho hx
      split at h
      · rename_i hall
        split at h
        · rename_i t i hr
          split at h
          · rename_i hi
            simp only [Option.some.injEq] at h
            exact ⟨o,x,es,st,a,b,c,d,t,i,rfl,ho,hx,hall,reachF_rf hr,hi,h.symm⟩
          · cases h
        · cases h
      · cases h
    · cases h
  · cases h
theorem hk_out {g:Hg} {t:List (Nat × Value)} {q:List (Nat × Nat)} {e:Env} {H:St} {Q:Exit→Act→World→Prop} {id j:Nat} (hj:j ≠ id) (h:HK g t q (Q (.exit j)) e H):HK g t q (Exit.inBlock id Q (.exit j)) e H:=by
  simpa only [Exit.inBlock,HK,if_neg hj] using h
theorem reach_rounds {g:Hg} {Q:Exit→Act→World→Prop} {B:List Obj} {T:List Nat} {om:Nat} {es:List (List D × List D)} {mst:List Nat × Nat} (hom:B[om]? = some (.map false false es mst))
    (hall:es.all (fun e=>match e with | ([.str _],[.int .i64 _])=>true | _=>false) = true) (tt:Bool)
    (hexit:∀ (t:List (Nat × Value)) (q:List (Nat × Nat)) (e:Env) (O:List Obj),e.get 6 = some (.d (.bool tt))→O.take B.length = B→HK g t q (Q (.exit 0)) e ⟨O,T,none⟩) :
    ∀ (n:Nat) (st:List (List D)) (i:Nat),i ≤ n→n ≤ 100000→RF (hitM es) st tt i→∀ (O:List Obj) (ob b cap:Nat) (c:List HV),O.take B.length = B→B.length ≤ ob→O[ob]? = some (.cells c)→c.length = cap * 4→c.take (st.length * 4) = dcells st.flatten→st.length ≤ cap →
      HR g (n + 1) c258l0 Q [(5,Value.slice (some ⟨b,0,none⟩) st.length cap)] [(ob,b)] [(0,.map om),(5,.row ob 0 st.length 4),(6,.d (.bool false))] ⟨O,T,none⟩:=by
  intro n
  induction n with
  | zero=>
    intro st i hi hn hrf O ob b cap c hO hob hc hcl hct hcap
    have:=hrf.len
    obtain rfl:st = []:=List.length_eq_zero_iff.1 (by omega)
    cases hrf
    refine hr_succ ?_
    unfold c258l0
    refine hg_seq (hg_seq (hg_am rfl ?_))
    simp only [go_sem]
    refine hk_next (hg_cond (b:=false) rfl ?_)
    exact hg_exit (hexit _ _ _ _ rfl hO)
  | succ n ih=>
    intro st i hi hn hrf O ob b cap c hO hob hc hcl hct hcap
    refine hr_succ ?_
    unfold c258l0
    refine hg_seq (hg_seq (hg_am rfl ?_))
    by_cases hst:st = []
    · subst hst
      cases hrf
      simp only [go_sem]
      refine hk_next (hg_cond (b:=false) rfl ?_)
      exact hg_exit (hexit _ _ _ _ rfl hO)
    obtain ⟨init,r,rfl⟩:∃ init r,st = init ++ [r]:=⟨_,_,(List.dropLast_concat_getLast hst).symm⟩
    have hlen:=hrf.len
    have hfour:=hrf.four
    obtain ⟨ta,tb,i1,i2,f1,f2,rfl,rfl⟩:=hrf.split
    have hsl:(init ++ [r]).length = init.length + 1:=by simp
    rw [hsl] at hct hcap hlen ⊢
    have hif:init.flatten.length = init.length * 4:=flatten_len f1.four
    cases f2 with
    | cons k x nm subs _ a b' i3 j hk hsub hnil=>
    cases hnil
    generalize hr:([.int .i64 k,.int .i32 x,.str nm,.sl subs]:List D) = r at hct hfour
    have hr4:r.length = 4:=hfour r (by simp)
    have hdi:(dcells init.flatten).length = init.length * 4:=by simp only [dcells,List.length_map,hif]
    have hdr:(dcells r).length = 4:=by simp only [dcells,List.length_map,hr4]
    have hdd:dcells (init ++ [r]).flatten = dcells init.flatten ++ dcells r:=by simp [dcells]
    rw [hdd] at hct
    have hc1:c.take (init.length * 4) = dcells init.flatten:=by
      have:=congrArg (List.take (init.length * 4)) hct
      rw [List.take_take,Nat.min_eq_left (by omega)] at this
      rw [this,List.take_append_of_le_length (by omega),List.take_of_length_le (by omega)]
    have hc2:(c.drop (init.length * 4)).take 4 = dcells r:=by
      have:=congrArg (List.drop (init.length * 4)) hct
      rw [List.drop_take,show (init.length + 1) * 4 - init.length * 4 = 4 by omega] at this
      rw [this,List.drop_append_of_le_length (by omega),List.drop_eq_nil_of_le (by omega),List.nil_append]
    simp only [go_sem]
    refine hk_next (hg_cond (b:=decide (((init.length + 1:Nat):Int) > 0)) rfl ?_)
    rw [if_pos (by simp only [decide_eq_true_eq];omega)]
    refine hg_skip (hk_next (hg_block (hg_seq (hg_am rfl ?_))))
    have hw1:IntKind.i64.wrap (((init.length + 1:Nat):Int) - 1) = (init.length:Int):=by rw [wrap64 (by omega) (by omega)];omega
    have hl1:((init.length:Int) < ((init.length + 1:Nat):Int)) = True:=eq_true (by omega)
    have hl2:(init.length * 4 + 4 ≤ c.length) = True:=eq_true (by omega)
    have hfl:(dcells r).all HV.flat1 = true:=by
      rw [List.all_eq_true]
      intro v hv
      obtain ⟨y,_,rfl⟩:=List.mem_map.1 hv
      rfl
    simp only [go_sem,hw1,hc,hl1,hl2,hc2,hdr,hfl,dcells_flat]
    refine hk_next (hg_seq (hg_region fun ops ro=>?_))
    refine hw_mv ro 0 5 (d:=19) (s:=5) (V:=Value.slice (some ⟨b,0,none⟩) (init.length + 1) cap) (t':=[(19,Value.slice (some ⟨b,0,none⟩) (init.length + 1) cap)]) rfl (by simp) rfl (by simp) ?_
    refine hw_am ro 1 3 2 rfl rfl ?_
    simp only [go_sem,List.drop_succ_cons,List.drop_zero,List.take_succ_cons,List.take_zero,hw1]
    refine hw_slice ro 4 1 (d:=23) (x:=19) (y:=22) (o:=ob) (b:=b) (n:=init.length + 1) (cap:=cap) (sz:=4) (k:=init.length) (ik:=.i64) (t':=[(23,Value.slice (some ⟨b,0,none⟩) init.length cap)]) rfl (by simp) (by simp) rfl (by omega) (by omega) (by omega) (by simp) ?_
    refine hw_mv ro 5 0 (d:=5) (s:=23) (V:=Value.slice (some ⟨b,0,none⟩) init.length cap) (t':=[(5,Value.slice (some ⟨b,0,none⟩) init.length cap)]) rfl (by simp) rfl (by simp) ?_
    refine hw_end (hk_restrict [0,5,6,7] ?_)
    simp only [go_sem]
    have hd4:dcells r = [.d (.int .i64 k),.d (.int .i32 x),.d (.str nm),.d (.sl subs)]:=by rw [← hr];rfl
    rw [hd4]
    obtain ⟨fr,hf1,hf2⟩:=find_str hall nm 0
    have hmO:O[om]? = some (.map false false es mst):=by
      rw [← hO,List.getElem?_take] at hom
      split at hom
      · exact hom
      · cases hom
    have hmO2:∀ z,(O ++ [z])[om]? = some (.map false false es mst):=fun z=>by rw [List.getElem?_append_left (lt_of_getElem? hmO)];exact hmO
    refine hk_next (hg_block (hg_seq (hg_am rfl ?_)))
    obtain ⟨z,hz1,hz2⟩:=hitM_find hf1 hf2
    have hkl:∀ (H:St) (K:HV→St→Prop),kL3 kS H [.int .i64 0] false nm false K (some (.map false false es mst)) = K (.d (.int .i64 z)) H:=fun H K=>by
      have e1:findKey kS.ks (kS.enc nm) es 0 = some fr:=hf1
      have e2:kS.agg = false:=rfl
      simp only [kL3,e1,WX_some,hz2,e2,true_and]
      show WX (some (HV.d (.int .i64 z))) _ = _
      rw [WX_some]
      rfl
    simp only [go_sem,hmO2,hkl]
    rw [show decide (z > 0) = hitM es nm from hz1.symm]
    refine hk_next (hg_cond (b:=hitM es nm) rfl ?_)
    cases hh:hitM es nm with
    | true=>
      rw [if_pos rfl]
      refine hg_seq (hg_am rfl ?_)
      simp only [go_sem]
      refine hk_next (hg_exit (hk_out (by decide) (hk_out (by decide) ?_)))
      exact hexit _ _ _ _ (by simp [Env.get,hh]) (by rw [List.take_append_of_le_length (by have:=lt_of_getElem? hc;omega)];exact hO)
    | false=>
    rw [if_neg (by simp)]
    refine hg_seq (hg_am rfl ?_)
    simp only [go_sem]
    have hO1:∀ z,(O ++ [z]).take B.length = B:=fun z=>by rw [List.take_append_of_le_length (by have:=lt_of_getElem? hc;omega)];exact hO
    have hcO:∀ z,(O ++ [z])[ob]? = some (.cells c):=fun z=>by rw [List.getElem?_append_left (lt_of_getElem? hc)];exact hc
    have fin:∀ (ys:List (List D)),RF (hitM es) ys a i3→∀ (O':List Obj) (ob' b' cap':Nat) (c':List HV),O'.take B.length = B→B.length ≤ ob'→O'[ob']? = some (.cells c')→c'.length = cap' * 4→c'.take ((init.length + ys.length) * 4) = dcells (init.flatten ++ ys.flatten)→init.length + ys.length ≤ cap' →
        HK g [(5,Value.slice (some ⟨b',0,none⟩) (init.length + ys.length) cap')] [(ob',b')] (Exit.inBlock 2 (Exit.inBlock 1 (qRound g (n + 1) c258l0 Q)) .normal) [(0,.map om),(5,.row ob' 0 (init.length + ys.length) 4),(6,.d (.bool false))] ⟨O',T,none⟩:=by
      intro ys hys O' ob' b' cap' c' g1 g2 g3 g4 g5 g6
      have:=ih (init ++ ys) (i1 + i3) (by omega) (by omega) (by have:=f1.append hys;simpa [hh] using this) O' ob' b' cap' c' g1 g2 g3 g4 (by rw [List.length_append,g5,List.flatten_append]) (by rw [List.length_append];exact g6)
      rw [List.length_append] at this
      exact hk_in0 (hk_in0 (hk_round this))
    have push:∀ (z:Obj) (ops:Array Oper) (hops:List HOper) (_:RegionOk g.P g.gt g.N ops hops) (p d y x:Nat) (e:Env) (t:List (Nat × Value)) (uy:HV) (ys:List (List D)),RF (hitM es) ys a i3→hops[p]? = some ⟨some d,.append 4 (.slot x) (.slot y),none,[]⟩→hops[p + 1]? = some ⟨some 5,.move (.slot d),none,[]⟩ →
        (x,Value.slice (some ⟨b,0,none⟩) init.length cap) ∈ t→e.get y = some uy→(⟨O ++ [z],T,none⟩:St).rows uy 4 = some ys→d ≠ 0→d ≠ 6→d ≠ 5→e.get 0 = some (.map om)→e.get 6 = some (.d (.bool false)) →
        ∀ Qx:Exit→Act→World→Prop,Qx .normal = Exit.inBlock 2 (Exit.inBlock 1 (qRound g (n + 1) c258l0 Q)) .normal→∀ ks,ks = [0,5,6]→HW g ops Qx p 2 t [(ob,b)] e ⟨O ++ [z],T,none⟩:=by
      intro z ops hops ro p d y x e t uy ys hys hp1 hp2 hV hy hrw hd0 hd6 hd5 he0 he6 Qx hQx ks hks
      have hyf:(dcells ys.flatten).length = ys.length * 4:=by simp only [dcells,List.length_map];exact flatten_len hys.four
      have hylen:=hys.len
      have hres:∀ (o' m':Nat),((((e.put (some d) (.row o' 0 m' 4)).put (some 5) (.row o' 0 m' 4)):Env).restrict [0,5,6]) = [(0,.map om),(5,.row o' 0 m' 4),(6,.d (.bool false))]:=fun o' m'=>by
        simp only [put_some,restrict_cons,restrict_nil,get_cons,hd0,hd6,if_false,he0,he6,if_true,rcons_some,Nat.reduceEqDiff]
      refine hw_append ro p 1 (d:=d) (x:=x) (y:=y) (o:=ob) (b:=b) (n:=init.length) (cap:=cap) (sz:=4) (c:=c) (ds:=init.flatten) (ys:=ys) hp1 hV (by simp) (hcO z) hcl (by omega) hc1 hy hrw (by omega) (fun hle=>?_) (fun hgt b' cap' c' hn' hcl' hct'=>?_)
      · have hfit:init.length * 4 + (dcells ys.flatten).length ≤ c.length:=by rw [hyf,hcl,← Nat.add_mul];exact Nat.mul_le_mul_right _ hle
        refine hw_mv ro (p + 1) 0 (d:=5) (s:=d) (V:=Value.slice (some ⟨b,0,none⟩) (init.length + ys.length) cap) (t':=[(5,Value.slice (some ⟨b,0,none⟩) (init.length + ys.length) cap)]) hp2 (by simp) (u:=.row ob 0 (init.length + ys.length) 4) (by simp [Env.put,Env.get]) (by simp) ?_
        refine hw_end (hk_restrict [0,5,6] ?_)
        rw [hres,hQx]
        refine fin ys hys _ ob b cap _ (pre_set (hO1 z) hob) hob (by simp only [St.setObj];rw [List.getElem?_set_self (lt_of_getElem? (hcO z))]) (by rw [splice_len hfit,hcl]) ?_ hle
        have:=splice_take hfit
        rw [hyf,← Nat.add_mul,hc1] at this
        rw [this]
        simp [dcells]
      · refine hw_mv ro (p + 1) 0 (d:=5) (s:=d) (V:=Value.slice (some ⟨b',0,none⟩) (init.length + ys.length) cap') (t':=[(5,Value.slice (some ⟨b',0,none⟩) (init.length + ys.length) cap')]) hp2 (by simp) (u:=.row (O ++ [z]).length 0 (init.length + ys.length) 4) (by simp [Env.put,Env.get]) (by simp) ?_
        refine hw_end (hk_restrict [0,5,6] ?_)
        rw [hres,hQx]
        refine fin ys hys (O ++ [z] ++ [.cells c']) (O ++ [z]).length b' cap' c' ?_ ?_ (by simp) hcl' hct' hn'
        · rw [List.take_append_of_le_length (by have:=lt_of_getElem? hc;simp;omega)]
          exact hO1 z
        · have:=lt_of_getElem? hc
          simp
          omega
    refine hk_next (hg_cond (b:=k == 7) rfl ?_)
    by_cases hk7:k = 7
    · rw [if_pos (by simp [hk7])]
      rw [if_pos hk7] at hsub
      obtain ⟨r0,srest,rfl⟩:∃ r0 srest,subs = r0 :: srest:=by
        cases subs with
        | nil=>exact absurd ⟨hk7,rfl⟩ hk
        | cons r0 srest=>exact ⟨r0,srest,rfl⟩
      have hr0:r0.length = 4:=hsub.four r0 (by simp)
      have htk:r0.take 4 = r0:=List.take_of_length_le (by omega)
      refine hg_region fun ops ro=>?_
      refine hw_mv ro 0 7 (d:=38) (s:=5) (V:=Value.slice (some ⟨b,0,none⟩) init.length cap) (t':=[(38,Value.slice (some ⟨b,0,none⟩) init.length cap)]) rfl (by simp) rfl (by simp) ?_
      refine hw_am ro 1 5 2 rfl rfl ?_
      simp only [go_sem,List.drop_succ_cons,List.drop_zero,List.take_succ_cons,List.take_zero,hr0,toDs_dcells,List.getElem?_cons_zero,htk]
      exact push _ ops _ ro 6 44 43 38 _ _ _ [r0] hsub rfl rfl (by simp) rfl (by
        simp only [St.rows]
        rw [if_pos (by simp [hr0])]) (by decide) (by decide) (by decide) rfl rfl _ rfl _ rfl
    · rw [if_neg (by simp [hk7])]
      rw [if_neg hk7] at hsub
      refine hg_region fun ops ro=>?_
      refine hw_mv ro 0 4 (d:=24) (s:=5) (V:=Value.slice (some ⟨b,0,none⟩) init.length cap) (t':=[(24,Value.slice (some ⟨b,0,none⟩) init.length cap)]) rfl (by simp) rfl (by simp) ?_
      refine hw_am ro 1 2 2 rfl rfl ?_
      simp only [go_sem,List.drop_succ_cons,List.drop_zero,List.take_succ_cons,List.take_zero]
      exact push _ ops _ ro 3 27 26 24 _ _ _ subs hsub rfl rfl (by simp) rfl (by
        simp only [St.rows]
        rw [if_pos (by rw [List.all_eq_true];intro r hr;simp [hsub.four r hr])]) (by decide) (by decide) (by decide) rfl rfl _ rfl _ rfl
theorem ext258:ExtOk Tryz.prog gtab 258 reachX:=by
  intro args H r hr
  obtain ⟨om,xv,es,mst,a,b,c,d,tt,i,rfl,hom,hx,hall,hrf,hi,rfl⟩:=reachX_inv hr
  obtain ⟨fn0,c0,f1,f2,f3,_⟩:=ok258.ex
  refine ⟨⟨fn0,f1,by rw [f2];rfl,f3⟩,fun L w vs S V=>?_⟩
  refine (hy_call ok258 S V (Z:=extZ gtab H L w (.d (.bool tt))) fun fn hfn hres=>?_).2
  generalize hg:(⟨Tryz.prog,gtab,fn.ntmps,{ H with low:=none },L,w⟩:Hg) = g
  have he:enter [] 0 [.map om,xv] = [(0,.map om),(1,.agg [.d a,.d b,.d c,.d d])]:=by
    simp [enter,hx,shut_map]
  obtain ⟨B,T,lw⟩:=H
  have hge:g = ⟨g.P,g.gt,g.N,⟨B,T,none⟩,L,w⟩:=by rw [← hg]
  have hgg:gtab = g.gt:=by rw [← hg]
  have hgP:Tryz.prog = g.P:=by rw [← hg]
  rw [hgg] at S
  rw [hgP] at hres
  suffices hs:HG g c258 (endQ g fn (extZ g.gt ⟨B,T,lw⟩ L w (.d (.bool tt)))) [] [] [(0,.map om),(1,.agg [.d a,.d b,.d c,.d d])] ⟨B,T,none⟩ by
    rw [← he,← hgg] at hs
    unfold endQ at hs
    rw [← hgP] at hs
    exact hs
  simp only at hom
  unfold c258
  refine hg_seq (hg_am rfl ?_)
  simp only [go_sem]
  refine hk_next (hg_scope (hg_seq (hg_region fun ops ro=>?_)))
  refine hw_am ro 0 1 2 rfl rfl ?_
  simp only [go_sem,List.drop_succ_cons,List.drop_zero,List.take_succ_cons,List.take_zero]
  refine hw_build ro 1 1 (d:=9) (x:=8) (sz:=4) (u:=.agg [.d a,.d b,.d c,.d d]) rfl rfl rfl fun bb=>?_
  refine hw_mv ro 2 0 (d:=5) (s:=9) (V:=Value.slice (some ⟨bb,0,none⟩) 1 1) (t':=[(5,Value.slice (some ⟨bb,0,none⟩) 1 1)]) rfl (by simp) rfl (by simp) ?_
  refine hw_end (hk_restrict [0,5] ?_)
  simp only [go_sem]
  refine hk_next (hg_seq (hg_am rfl ?_))
  simp only [go_sem]
  refine hk_next (hg_seq (hg_label (hk_next (hg_seq (hg_block (hg_loop (i + 1) ?_))))))
  refine reach_rounds (B:=B) (T:=T) hom hall tt (fun t q e O h6 hO=>?_) i [[a,b,c,d]] i (Nat.le_refl _) hi hrf _ (B.length + 1) bb 1 [.d a,.d b,.d c,.d d] (by simp) (by omega) (by simp) rfl rfl (by simp)
  have hre:e.restrict [6] = [(6,.d (.bool tt))]:=by simp only [restrict_cons,restrict_nil,h6,rcons_some]
  refine hk_in (hk_restrict [6] ?_)
  rw [hre]
  have less:∀ (K:Act→World→Prop) (e:Env) (H:St),HK g [] [] K e H→HK g t q K e H:=fun K e H h L w a hy=>h L w a (hy.less (fun _ h=>by cases h) fun _ h=>by cases h)
  refine less _ _ _ (hk_next (hg_seq (hg_am rfl ?_)))
  simp only [go_sem]
  refine hk_next (hg_ret ?_)
  exact hk_end (H:=⟨B,T,lw⟩) hge S hres .shut rfl rfl hO (by simp)
end Am
