/- Proved: BuildAgain answers true for every text and every version, its arguments read as before: the given card, on its conditions: the package variable clocks.always as the program lays it, and the reach of memory. -/
import Derived.Test.YtgepkelfblhpnaaGreatDoorCards
import Derived.Test.YtgepkelfblhpnaaGreatDoorTie
import Derived.WalkKit
import Derived.ProofKit
import Derived.OpenShut
import Derived.Deep.DeepHandedRow
import Derived.LaidMore
import Derived.Test.YtgepkelfblhpnaaGreatDoorA41
import Derived.Test.YtgepkelfblhpnaaGreatDoorA39
set_option linter.all false
namespace Go.Proofs.YtgepkelfblhpnaaGreatDoor.again
open Go Go.ChangeShapes Go.WideShapes Go.ChangeAt Go.RowKit Go.ChangeMaps Am
theorem own:ownKnob Tryz.prog.godebug = none:=by kernel_rfl
theorem gAlways:Tryz.prog.globalNamed "midstream/clocks.always" = some 0:=by kernel_rfl
theorem tAlways:(Tryz.prog.globals[0]?).map (·.type) = some 84:=by kernel_rfl
theorem cells3:Tryz.prog.cellsOf 3 = 1:=by kernel_rfl
theorem cells9:Tryz.prog.cellsOf 9 = 1:=by kernel_rfl
theorem cells84:Tryz.prog.cellsOf 84 = 2:=by kernel_rfl
theorem of_laid {W:World} (h:laidMetH Tryz.prog Rows.buildAgainRow.laid W):W.cell? ⟨0,0,none⟩ = some (.int .i64 0) ∧ W.cell? ⟨0,1,none⟩ = some (.string ⟨#[]⟩):=by
  rw [MakeChecks.laidMetH_plain _ _ _ (by kernel_rfl)] at h
  obtain ⟨ps,⟨g0,t0,cs0,f0,p0,q0,hg0,ht0,hv0,hd0,_⟩,_,_⟩:=h
  obtain rfl:=Option.some.inj (gAlways.symm.trans hg0)
  obtain rfl:=Option.some.inj (tAlways.symm.trans ht0)
  obtain ⟨y0,y1,n,hx,hl,h0,h1⟩:=trod_struct2 Tryz.underlying84 hd0
  simp only [Prod.mk.injEq,Rows.laid_midstream_clocks_always,DataW.agg.injEq,List.cons.injEq,and_true] at hx
  obtain ⟨⟨e0,e1⟩,_⟩:=hx
  simp only [cells3,cells9] at h0 h1
  obtain ⟨k,c0,x0,_⟩:=DataW.trod_int Tryz.underlying3 h0
  obtain ⟨s,c1,x1,_⟩:=DataW.trod_string Tryz.underlying9 h1
  rw [x0] at e0
  rw [x1] at e1
  simp only [DataW.lit.injEq,Lit.int.injEq,Lit.string.injEq,true_and] at e0 e1
  subst e0
  obtain ⟨⟨ls⟩⟩:=s
  simp only at e1
  subst e1
  obtain ⟨l⟩:=cs0
  simp only at c0 c1
  have g0:=World.var?_cell gAlways hv0 0
  have g1:=World.var?_cell gAlways hv0 1
  rw [cells84] at hl
  match l,hl,c0,c1,g0,g1 with
  | [a,b],_,c0,c1,g0,g1=>
    simp at c0 c1 g0 g1
    rw [g0,g1,c0,c1]
    exact ⟨rfl,rfl⟩
def L0 (W:World):Lay:=⟨fun b=>if b = 0 then 2 else 0,[],[],fun _=>[],W.heap.size⟩
theorem sim0 {W:World} (h0:W.cell? ⟨0,0,none⟩ = some (.int .i64 0)) (h1:W.cell? ⟨0,1,none⟩ = some (.string ⟨#[]⟩)):Sim gtab ⟨[],[],none⟩ (L0 W) W where
  glob:=fun g cs h=>by
    unfold gtab at h
    split at h
    · rename_i hg
      subst hg
      cases h
      refine ⟨by simp [L0],fun k x hx=>?_⟩
      match k,hx with
      | 0,hx=>cases hx;exact ⟨_,h0,.int _ _⟩
      | 1,hx=>cases hx;exact ⟨_,h1,.str []⟩
      | k + 2,hx=>simp at hx
    · cases h
  nobj:=rfl
  ntip:=rfl
  obj:=fun o b x h=>by simp at h
  pend:=fun o h=>by simp [L0] at h
  tip:=fun t n b sz cap h=>by simp at h
  tip0:=fun t n h=>by simp at h
  inj:=fun i j b h=>by simp [L0] at h
  tinj:=fun i j b s c s' c' h=>by simp [L0] at h
  disj:=fun i j b s c h=>by simp [L0] at h
  objI:=fun o b h=>by simp [L0] at h
  fresh:=fun b hb=>by
    have:0 < W.heap.size:=by
      rcases Nat.eq_zero_or_pos W.heap.size with h | h
      · exfalso
        obtain ⟨cs,e,fz,hc⟩:=cells_of_cell h0
        have:=(Array.getElem?_eq_some_iff.1 hc).1
        omega
      · exact h
    simp only [L0]
    rw [if_neg (by omega)]
  young:=fun b h=>by
    rcases h with ⟨o,h⟩ | ⟨t,s,c,h⟩
    · simp [L0] at h
    · simp [L0] at h
  baseLe:=Nat.le_refl _
theorem ext_all:∀ f g,prg.ext f = some g→ExtOk Tryz.prog gtab f g:=fun f g h=>by
  have h:extOf f = some g:=h
  unfold extOf at h
  split at h
  · rename_i hf
    subst hf
    cases h
    exact ext99
  · split at h
    · rename_i hf
      subst hf
      cases h
      exact ext258
    · cases h
theorem walk (W:World) (s:List UInt8) (v:Int) (h0:W.cell? ⟨0,0,none⟩ = some (.int .i64 0)) (h1:W.cell? ⟨0,1,none⟩ = some (.string ⟨#[]⟩)) :
    Calls Tryz.prog 4 #[.string ⟨s.toArray⟩,.int .u32 v] W fun e W'=>e = .returned (.bool true) ∧ W'.os = W.os ∧ W'.output = W.output ∧ ∀ b,b < W.heap.size→W'.heap[b]? = W.heap[b]?:=by
  obtain ⟨m,hm⟩:=again_c s v ⟨[],[],none⟩
  obtain ⟨_,hc⟩:=call_ok ok_all ext_all m 4 _ _ _ _ (hm m (Nat.le_refl _))
  refine (hc (L0 W) W [.string ⟨s.toArray⟩,.int .u32 v] (sim0 h0 h1) (.cons _ _ _ _ (.d _ _ (.str s)) (.cons _ _ _ _ (.d _ _ (.int _ _)) .nil))).mono fun e W' h=>?_
  obtain ⟨x,L',rfl,e1,_,V⟩:=h
  refine ⟨?_,e1.os,e1.output,fun b hb=>e1.old b hb⟩
  cases V with
  | d _ _ hd=>cases hd;rfl
set_option maxRecDepth 100000 in
theorem contract (H:Type) (enc:TypeId × Value→H) (W:World) (base:Nat) (args:Array Value) (ds gs:List (DataW H)) (before:List MemPlace)
    (hval:∀ (j:Nat) t v,Tryz.f4.params[j]? = some t→args[j]? = some v→Value.okWide Tryz.prog W .any base t v)
    (hW:DataW.Whole enc Tryz.prog Tryz.f4.params.toList Rows.buildAgainSpec.vars false W args.toList ds gs before) (hL:laidMetH Tryz.prog Rows.buildAgainRow.laid W) :
    Calls Tryz.prog 4 args W fun e W'=>∃ v,e = .returned v ∧ Rows.buildAgainSpec.post enc Tryz.prog Tryz.f4 false true false false W args v W':=by
  have hW':=hW
  obtain ⟨p,q,hA0,hV,rfl,hfz,hnd⟩:=hW
  have hA:DataW.TrodAll enc Tryz.prog W 0 (fun _=>true) true Tryz.f4.params.toList args.toList ds p:=hA0
  rw [Tryz.params4] at hA hval
  obtain ⟨v0,v1,d0,d1,p0,p1,rfl,rfl,rfl,r0,r1⟩:=trodAll_two hA
  obtain ⟨rfl,rfl⟩:=trodVars_none hV
  obtain ⟨s,rfl,rfl,rfl,hs⟩:=open_string Tryz.underlying9 (hval 0 9 v0 rfl rfl) r0
  obtain ⟨n,rfl,rfl,rfl,hn⟩:=open_int Tryz.underlying22 (hval 1 22 v1 rfl rfl) r1
  obtain ⟨h0,h1⟩:=of_laid hL
  have hwk:=walk W s.data.toList n h0 h1
  refine Calls.mono hwk fun e W' h=>?_
  obtain ⟨rfl,ho,hout,hh⟩:=h
  refine ⟨_,rfl,_,_,_,[],[],[],hW',trodAll_cons_mk (shut_bool Tryz.underlying4 _) trodAll_mk0,?_,rfl,⟨ho,hout,fun i hi=>?_⟩,fun h=>by cases h⟩
  · rw [Tryz.params4]
    exact trodAll_cons_mk (shut_string Tryz.underlying9 hs) (trodAll_cons_mk (shut_int Tryz.underlying22 hn) trodAll_mk0)
  · rw [hh i hi]
    cases hw:W.heap[i]? with
    | none=>rfl
    | some x=>cases x <;> first | exact ⟨rfl,rfl,rfl,fun _ _=>rfl⟩ | exact .inr ⟨rfl,rfl⟩ | rfl
theorem laid_met (os:Os):laidMetH Tryz.prog Rows.buildAgainRow.laid ((World.holding Tryz.prog os ⟨#[],#[],[]⟩).forCall (fun _ _=>0) ⟨#[],#[.string ⟨#[]⟩,.int .u32 0],[]⟩).memory:=by
  rw [MakeChecks.laidMetH_plain _ _ _ (by kernel_rfl)]
  exact laidMet_of_run' 8 (by kernel_rfl) (by kernel_rfl)
theorem reads (os:Os) {H:Type} (enc:TypeId × Value→H):∃ places,DataW.whole enc Tryz.prog ((World.holding Tryz.prog os ⟨#[],#[],[]⟩).forCall (fun _ _=>0) ⟨#[],#[.string ⟨#[]⟩,.int .u32 0],[]⟩).memory Tryz.f4.params.toList Rows.buildAgainSpec.vars false
    #[Value.string ⟨#[]⟩,Value.int .u32 0].toList 8 = some ([.lit (.string []),.lit (.int .u32 0)],[],places):=⟨[],by kernel_rfl⟩
set_option maxRecDepth 100000 in
theorem lifted (os:Os) (started:os.Started) (H:Type) (enc:TypeId × Value→H) (F:Stop.Interp) :
    ReturnsInHanded {} Tryz.checked os 4 .any ((OpenSpec.ofChange Rows.buildAgainSpec).preRow enc Tryz.prog Tryz.f4 Rows.buildAgainRow.domain false Rows.buildAgainRow.laid) (((OpenSpec.ofChange Rows.buildAgainSpec).at F).post enc Tryz.prog Tryz.f4 false true false false):=by
  obtain ⟨places,hx⟩:=reads os enc
  refine returnsInHanded_of_row (C:=Tryz.checked) (s:=OpenSpec.ofChange Rows.buildAgainSpec) own started (by kernel_rfl) Tryz.func4
    (witness_row_at (enc:=enc) (C:=Tryz.checked) false (World.holding Tryz.prog os ⟨#[],#[],[]⟩) #[.string ⟨#[]⟩,.int .u32 0] rfl (by kernel_rfl) (by kernel_rfl) (by kernel_rfl)
      (OpenSpec.preRow_of_cond 8 hx (by kernel_rfl) (fun k hk=>by cases hk) (by kernel_rfl) (laid_met os))) ?_
  intro W base args ds gs before hval hW _ _ _ hL _ _
  exact contract H enc W base args ds gs before hval hW hL
theorem said:Rows.BuildAgainSaid:=
  OpenClaim.holds_of_cond 4 Tryz.f4 rfl rfl rfl rfl rfl rfl rfl ⟨rfl,rfl,rfl,rfl,rfl⟩ rfl rfl rfl rfl rfl (by kernel_rfl) Tryz.func4 (by kernel_rfl)
    (of_decide_eq_true (by kernel_rfl)) (by unfold Func.isWrapper;first | (rw [if_pos (by decide +kernel)];kernel_rfl) | (rw [if_neg (by decide +kernel)];exact ⟨rfl,rfl⟩))
    (fun os started H enc _ F=>by rw [OpenClaim.pre_eq_preRow];exact lifted os started H enc F)
theorem plain (f:FuncId) (fn:Func) (hf:Tryz.pinned.checked.prog.funcNamed "midstream/midstreamlaw21.BuildAgain" = some f) (hfn:Tryz.pinned.checked.prog.funcs[f]? = some fn) :
    false = Tryz.pinned.checked.prog.looks [] ∧ ∀ (j:Nat) t,fn.params[j]? = some t→Tryz.pinned.checked.prog.wantsStandIn t = false:=by
  obtain rfl:f = 4:=Option.some.inj ((show Tryz.prog.funcNamed "midstream/midstreamlaw21.BuildAgain" = some 4 by kernel_rfl).symm.trans hf) |>.symm
  obtain rfl:fn = Tryz.f4:=(Option.some.inj (Tryz.func4.symm.trans hfn)).symm
  refine ⟨by kernel_rfl,fun j t ht=>?_⟩
  rw [Tryz.params4] at ht
  have hm:t ∈ [9,22]:=by simpa using Array.mem_of_getElem? ht
  have hall:([9,22].all fun u=>!Tryz.prog.wantsStandIn u) = true:=by kernel_rfl
  exact (show Tryz.prog.wantsStandIn t = false by simpa using List.all_eq_true.1 hall t hm)
theorem card:Rows.BuildAgainCardSaid:=
  Claim7.holds_tied_plain_at .later [] _ _ _ _ said (fun _ h=>by cases h) (by kernel_rfl) (fun _ h=>by cases h) buildAgain_row_tie rfl ⟨rfl,rfl⟩ (by kernel_rfl) rfl plain (by kernel_rfl)
end Go.Proofs.YtgepkelfblhpnaaGreatDoor.again
