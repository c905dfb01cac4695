/- A part of the proof of BuildAgain: no condition of its own. Whence: AmMap3, AmGen4, AmGen5, AmGen6, AmGen7, AmGen8, AmGen9. -/
import Derived.Test.YtgepkelfblhpnaaGreatDoorA33
set_option linter.all false
namespace Am
open Go C
structure BirthOk (st:List Nat × Nat) (n:Nat):Prop where
  len:st.1.length = n
  up:∀ (i j x y:Nat),i < j→st.1[i]? = some x→st.1[j]? = some y→x < y
  below:∀ x:Nat,x ∈ st.1→x < st.2
theorem BirthOk.nil:BirthOk ([],0) 0:=⟨rfl,fun i j x y _ h=>by simp at h,fun x h=>by simp at h⟩
section
variable {κ:Type} [DecidableEq κ]
def brM (es:Ents κ) (a:κ) (st:List Nat × Nat):Nat:=match es.findIdx? fun p=>decide (a = p.1) with
  | some i=>st.1[i]?.getD 0
  | none=>st.2
theorem getM_cons2 (c:κ) (w:List D) (es:Ents κ) (a:κ):getM ((c,w) :: es) a = if a = c then some w else getM es a:=by
  unfold getM
  simp only [List.find?_cons]
  by_cases h:a = c <;> simp [h]
theorem putM_len2 (es:Ents κ) (a:κ) (v:List D):(putM es a v).length = if (getM es a).isSome then es.length else es.length + 1:=by
  induction es with
  | nil=>rfl
  | cons p es ih=>
    obtain ⟨c,w⟩:=p
    rw [getM_cons2,putM]
    by_cases h:a = c
    · rw [if_pos h,if_pos h];rfl
    · rw [if_neg h,if_neg h,List.length_cons,List.length_cons,ih]
      split <;> rfl
theorem birth_put {es:Ents κ} {st:List Nat × Nat} (h:BirthOk st es.length) (a:κ) (v:List D):BirthOk (putT es a st) (putM es a v).length:=by
  rw [putM_len2]
  unfold putT
  split
  · exact h
  · refine ⟨by simp [h.len],?_,?_⟩
    · intro i j x y hij hx hy
      dsimp only at hx hy
      by_cases hj:j < st.1.length
      · rw [List.getElem?_append_left hj] at hy
        rw [List.getElem?_append_left (by omega)] at hx
        exact h.up i j x y hij hx hy
      · have hj2:j < (st.1 ++ [st.2]).length:=lt_of_some hy
        have hj3:j = st.1.length:=by simp at hj2;omega
        subst hj3
        rw [List.getElem?_append_left (by omega)] at hx
        simp only [List.getElem?_concat_length,Option.some.injEq] at hy
        rw [← hy]
        exact h.below x (List.mem_of_getElem? hx)
    · intro x hx
      simp only [List.mem_append,List.mem_singleton] at hx
      rcases hx with hx | rfl
      · have:=h.below x hx;omega
      · simp
theorem putM_put (es:Ents κ) (a:κ) (v w:List D):putM (putM es a v) a w = putM es a w:=by
  induction es with
  | nil=>simp [putM]
  | cons p es ih=>
    obtain ⟨c,u⟩:=p
    simp only [putM]
    by_cases h:a = c
    · simp [h,putM]
    · simp only [h,if_false,putM,ih]
theorem putM_idx (es:Ents κ) (a:κ) (v:List D):((putM es a v).findIdx? fun p=>decide (a = p.1)) = some (((es.findIdx? fun p=>decide (a = p.1))).getD es.length):=by
  induction es with
  | nil=>simp [putM]
  | cons p es ih=>
    obtain ⟨c,u⟩:=p
    simp only [putM]
    by_cases h:a = c
    · subst h;simp [List.findIdx?_cons]
    · simp only [h,if_false,List.findIdx?_cons,decide_false,ih]
      cases List.findIdx? (fun p:κ × List D=>decide (a = p.1)) es <;> simp
theorem findIdx_lt {α:Type} {f:α→Bool} {l:List α} {i:Nat} (h:l.findIdx? f = some i):i < l.length:=(List.findIdx?_eq_some_iff_getElem.1 h).1
theorem birth_idx {es:Ents κ} {st:List Nat × Nat} (h:BirthOk st es.length) (a:κ) :
    (putT es a st).1.findIdx? (fun (b:Nat)=>(b:Int) == ((brM es a st:Nat):Int)) = some (((es.findIdx? fun p=>decide (a = p.1))).getD es.length):=by
  have key:∀ (i:Nat) (s:List Nat) (x:Nat),s[i]? = some x→(∀ j y,j < i→s[j]? = some y→y < x)→s.findIdx? (fun (b:Nat)=>(b:Int) == (x:Int)) = some i:=by
    intro i s x hx hl
    rw [List.findIdx?_eq_some_iff_getElem]
    refine ⟨lt_of_some hx,?_,?_⟩
    · rw [List.getElem?_eq_getElem (lt_of_some hx)] at hx
      simp only [Option.some.injEq] at hx
      rw [hx];simp
    · intro j hj
      have:=hl j _ hj (List.getElem?_eq_getElem (by have:=lt_of_some hx;omega))
      simp;omega
  unfold brM putT
  cases hf:es.findIdx? fun p=>decide (a = p.1) with
  | none=>
    rw [(find_none_iff es a).1 hf]
    simp only [Option.isSome_none,Bool.false_eq_true,if_false,Option.getD_none]
    rw [← h.len]
    refine key _ _ _ (by simp) ?_
    intro j y hj hy
    rw [List.getElem?_append_left hj] at hy
    exact h.below y (List.mem_of_getElem? hy)
  | some i=>
    have hi:=findIdx_lt hf
    have hs:(getM es a).isSome = true:=by
      cases hg:getM es a with
      | none=>rw [(find_none_iff es a).2 hg] at hf;cases hf
      | some v=>rfl
    rw [hs,if_pos rfl]
    have hi2:i < st.1.length:=by rw [h.len];exact hi
    simp only [List.getElem?_eq_getElem hi2,Option.getD_some]
    refine key _ _ _ (List.getElem?_eq_getElem hi2) ?_
    intro j y hj hy
    exact h.up j i y _ hj hy (List.getElem?_eq_getElem hi2)
end
section
variable {κ:Type} [DecidableEq κ]
variable {p:HProg} {e:Env} {H:St}
def kE2 (H:St) (z:List D) (va ka:Bool) (ks:List LK) (K:HV→St→Prop) (mv kv:HV):Prop:=
  WX (stepOp noCall (evalO (env2 mv kv mv)) H (.mapEntry z va ka ks (.slot 0) (.slot 1))) (kPure K)
def kE1 (e:Env) (H:St) (z:List D) (va ka:Bool) (ks:List LK) (x:HO) (K:HV→St→Prop) (mv:HV):Prop:=
  WX (evalO e x) (kE2 H z va ka ks K mv)
@[go_sem high] theorem wop_mapEntry2 (z:List D) (va ka:Bool) (ks:List LK) (m x:HO) (K:HV→St→Prop):WOp p e H (.mapEntry z va ka ks m x) K = WX (evalO e m) (kE1 e H z va ka ks x K):=by
  show WX (stepOp noCall (evalO e) H (.mapEntry z va ka ks m x)) _ = _
  unfold kE1 kE2
  simp only [stepOp]
  cases evalO e m with
  | none=>simp [WX]
  | some mv=>
    rw [WX_some]
    cases evalO e x with
    | none=>cases mv <;> simp [WX]
    | some kv=>rw [WX_some];rfl
@[go_sem] theorem kE1_eq (z:List D) (va ka:Bool) (ks:List LK) (x:HO) (K:HV→St→Prop) (mv:HV):kE1 e H z va ka ks x K mv = WX (evalO e x) (kE2 H z va ka ks K mv):=(rfl)
def kE3 (k:KK κ) (H:St) (z:List D) (va:Bool) (a:κ) (o:Nat) (K:HV→St→Prop) (ob:Option Obj):Prop:=
  ∃ es st,ob = some (mapO k va es st) ∧ BirthOk st es.length ∧ WX (mkV va (dcells ((getM es a).getD z))) fun X=>K (.tup [X,.d (.int .i64 (brM es a st))]) (H.setObj o (mapO k va (putM es a ((getM es a).getD z)) (putT es a st)))
theorem kE2_of (k:KK κ) [hk:KOk k] (z:List D) (va:Bool) (a:κ) (kv:HV) (K:HV→St→Prop) (o:Nat) (h1:kv.isAgg = k.agg) (h2:toDs kv.cells = some (k.enc a)) (h:kE3 k H z va a o K H.objs[o]?) :
    kE2 H z va k.agg k.ks K (.map o) kv:=by
  obtain ⟨es,st,ho,hb,h⟩:=h
  unfold kE2
  have hf:=find_enc k a es 0
  have hp:=put_idx k es a ((getM es a).getD z)
  obtain ⟨X,hX,hK⟩:=h
  simp only [stepOp,env2_0,env2_1,if_true,h1,h2,ho,mapO,hk.len,and_self,hf]
  cases hi:es.findIdx? fun p=>decide (a = p.1) with
  | none=>
    have hg:=(find_none_iff es a).1 hi
    rw [hi] at hp
    rw [hg] at hX hp hK
    simp only [Option.getD_none] at hX hp hK
    simp only [Option.bind_none,hX]
    rw [WX_some]
    unfold kPure
    simp only [mapO,hp,putT,hg,brM,hi] at hK
    exact hK
  | some i=>
    have hil:=findIdx_lt hi
    cases hg:getM es a with
    | none=>rw [(find_none_iff es a).2 hg] at hi;cases hi
    | some v=>
      rw [hi] at hp
      rw [hg] at hX hp hK
      simp only [Option.getD_some] at hX hp hK
      have hi2:i < st.1.length:=by rw [hb.len];exact hil
      simp only [Option.bind_some,Option.map_some,Nat.zero_add,hX,List.getElem?_eq_getElem hi2]
      rw [WX_some]
      unfold kPure
      simp only [mapO,hp,putT,hg,brM,hi,List.getElem?_eq_getElem hi2,Option.isSome_some,if_true,Option.getD_some] at hK
      exact hK
def kT2 (H:St) (va:Bool) (K:HV→St→Prop) (mv s vv:HV):Prop:=
  WX (stepOp noCall (evalO (env2 mv s vv)) H (.entryStore va (.slot 0) (.slot 1) (.slot 2))) (kPure K)
def kT1 (e:Env) (H:St) (va:Bool) (y:HO) (K:HV→St→Prop) (mv s:HV):Prop:=WX (evalO e y) (kT2 H va K mv s)
def kT0 (e:Env) (H:St) (va:Bool) (x y:HO) (K:HV→St→Prop) (mv:HV):Prop:=WX (evalO e x) (kT1 e H va y K mv)
@[go_sem high] theorem wop_entryStore2 (va:Bool) (m x y:HO) (K:HV→St→Prop):WOp p e H (.entryStore va m x y) K = WX (evalO e m) (kT0 e H va x y K):=by
  show WX (stepOp noCall (evalO e) H (.entryStore va m x y)) _ = _
  unfold kT0 kT1 kT2
  simp only [stepOp]
  cases evalO e m with
  | none=>simp [WX]
  | some mv=>
    rw [WX_some]
    cases evalO e x with
    | none=>cases mv <;> simp [WX]
    | some s=>
      rw [WX_some]
      cases evalO e y with
      | none=>
        cases mv <;> simp [WX]
        all_goals
          cases s with
          | d x=>cases x <;> simp
          | _=>simp
      | some vv=>rw [WX_some];rfl
@[go_sem] theorem kT0_eq (va:Bool) (x y:HO) (K:HV→St→Prop) (mv:HV):kT0 e H va x y K mv = WX (evalO e x) (kT1 e H va y K mv):=(rfl)
@[go_sem] theorem kT1_eq (va:Bool) (y:HO) (K:HV→St→Prop) (mv s:HV):kT1 e H va y K mv s = WX (evalO e y) (kT2 H va K mv s):=(rfl)
theorem kT2_of (k:KK κ) (va:Bool) (es:Ents κ) (st:List Nat × Nat) (a:κ) (v0 val:List D) (vv:HV) (K:HV→St→Prop) (o:Nat) (h3:vv.isAgg = va) (h4:toDs vv.cells = some val) (hb:BirthOk st es.length)
    (ho:H.objs[o]? = some (mapO k va (putM es a v0) (putT es a st))) (h:K undefV (H.setObj o (mapO k va (putM es a val) (putT es a st)))) :
    kT2 H va K (.map o) (.d (.int .i64 (brM es a st))) vv:=by
  unfold kT2
  have hidx:=birth_idx hb a
  have hpi:=putM_idx es a v0
  have hp:=put_idx k (putM es a v0) a val
  rw [hpi,putM_put] at hp
  have hlt:=findIdx_lt hpi
  have hat:∃ w,(encM k (putM es a v0))[(es.findIdx? fun p=>decide (a = p.1)).getD es.length]? = some (k.enc a,w):=by
    rw [List.findIdx?_eq_some_iff_getElem] at hpi
    obtain ⟨h5,h6,_⟩:=hpi
    refine ⟨((putM es a v0)[(es.findIdx? fun p=>decide (a = p.1)).getD es.length]).2,?_⟩
    unfold encM
    rw [List.getElem?_map,List.getElem?_eq_getElem h5]
    simp only [decide_eq_true_eq] at h6
    simp only [Option.map_some,Option.some.injEq]
    rw [← h6]
  obtain ⟨w,hat⟩:=hat
  simp only [stepOp,env2_0,env2_1,env2_2,if_true,h3,h4,ho,mapO,hidx,hat]
  rw [WX_some]
  unfold kPure
  simp only [mapO,hp] at h
  exact h
end
end Am
namespace Am
open Go C
def underS (slot:Str→Int) (c:Clk) (x:List Ins):List Ins:=
  if c.kind = 1 then [⟨2,slot c.name⟩] ++ ([⟨11,x.length⟩] ++ x) else if c.kind = 2 then [⟨2,slot c.name⟩] ++ ([⟨8,2⟩] ++ ([⟨11,x.length⟩] ++ x)) else x
theorem under_len (slot:Str→Int) (c:Clk) (x:List Ins):(underS slot c x).length ≤ x.length + 3:=by unfold underS;split <;> (try split) <;> simp <;> omega
theorem under_c (c:Clk) (x:List Ins) (hx:x.length ≤ 100000000) (o a b d:Nat) (v:HV) (S:Ents Str) (s1:List Nat × Nat) (F:Ents Clk) (s3:List Nat × Nat) (B:List Obj) (T:List Nat) (lw:Option Nat) (hp:PlanAt B o a b d v S s1 F s3) :
    CallsA prg 169 [.ref o 0,clkV c,.d (insV x)] ⟨B,T,lw⟩ (.d (insV (underS (planOf S F).slot c x))) ⟨B,T,lw⟩:=by
  have h1:=fun a b H=>WCall_of (one_c a b H)
  have hm:=hp.more [.cells [.d (.int .i64 c.kind),.d (.str c.name)]]
  have ho:=hm.ho
  have ha:=hm.ha
  have hg:=i32M_get hp.hS c.name
  have w3:IntKind.i32.wrap (x.length:Int) = (x.length:Int):=wrap32 (by omega) (by omega)
  have r1:=fun H=>WCall_of (row3 [⟨2,n32 (getM S c.name)⟩] [⟨11,x.length⟩] x (by simp) (by simp) hx H)
  have r2:=fun H=>WCall_of (row4 [⟨2,n32 (getM S c.name)⟩] [⟨8,2⟩] [⟨11,x.length⟩] x (by simp) (by simp) (by simp) hx H)
  simp only [insV,List.map_cons,List.map_nil] at h1 r1 r2 ⊢
  refine calls_of2 rfl f169 ?_
  unfold clkV
  simp only [go_sem,c169,h1,ho,ha,hg,w3,List.length_map]
  refine WG_intro (fun t=>?_) fun t=>?_
  · have hk:c.kind = 1:=by simpa using t
    simp only [go_sem,t,r1]
    unfold underS
    rw [if_pos hk]
    rfl
  · have hk:c.kind ≠ 1:=by simpa using t
    simp only [go_sem,t]
    refine WG_intro (fun t2=>?_) fun t2=>?_
    · have hk2:c.kind = 2:=by simpa using t2
      simp only [go_sem,t2,h1,r2]
      unfold underS
      rw [if_neg hk,if_pos hk2]
      rfl
    · have hk2:c.kind ≠ 2:=by simpa using t2
      simp only [go_sem,t2]
      unfold underS
      rw [if_neg hk,if_neg hk2]
end Am
namespace Am
open Go C
def sloM (vs:List Var):Nat→Ents Str
  | 0=>[]
  | j + 1=>putM (sloM vs j) (vs[j]?.getD var0).name [.int .i32 j]
def sloT (vs:List Var):Nat→List Nat × Nat
  | 0=>([],0)
  | j + 1=>putT (sloM vs j) (vs[j]?.getD var0).name (sloT vs j)
theorem sloM_ok (vs:List Var) (j:Nat):i32M (sloM vs j) ∧ BirthOk (sloT vs j) (sloM vs j).length:=by
  induction j with
  | zero=>exact ⟨fun p h=>by simp [sloM] at h,BirthOk.nil⟩
  | succ j ih=>rw [sloM,sloT];exact ⟨i32M_put ih.1 _ _,birth_put ih.2 _ _⟩
theorem clkM_birth (vs:List Var) (j:Nat):BirthOk (clkN vs j) (clkM vs j).length:=by
  induction j with
  | zero=>exact BirthOk.nil
  | succ j ih=>rw [clkM,clkN];exact birth_put ih _ _
def flgM (cs:List MCell):Nat→Ents Clk
  | 0=>[]
  | j + 1=>if (cs[j]?.getD ⟨[],clk0,0⟩).name = [] then putM (flgM cs j) (cs[j]?.getD ⟨[],clk0,0⟩).clk [.int .i32 j] else flgM cs j
def flgT (cs:List MCell):Nat→List Nat × Nat
  | 0=>([],0)
  | j + 1=>if (cs[j]?.getD ⟨[],clk0,0⟩).name = [] then putT (flgM cs j) (cs[j]?.getD ⟨[],clk0,0⟩).clk (flgT cs j) else flgT cs j
theorem flgM_ok (cs:List MCell) (j:Nat):i32M (flgM cs j):=by
  induction j with
  | zero=>exact fun p h=>by simp [flgM] at h
  | succ j ih=>rw [flgM];split;exact i32M_put ih _ _;exact ih
def layObjs (p:Prog) (n:Nat) (cs:List MCell) (i j:Nat):List Obj:=
  [cellsP p,mapO kS false (sloM (varsS p) i) (sloT (varsS p) i),mapO kS true (clkM (varsS p) i) (clkN (varsS p) i),mapO kC false (flgM cs j) (flgT cs j),
    .cells [.map (n + 1),.map (n + 2),.map (n + 3),.d (.sl (cs.map encMC))]]
def L1I (p:Prog) (cs:List MCell) (B:List Obj) (T:List Nat) (k:Nat) (e:Env) (H:St):Prop:=
  ∃ i,i ≤ (varsS p).length ∧ k = (varsS p).length - i ∧
    e = [(1,.d (.sl (cs.map encMC))),(5,.ref (B.length + 4) 0),(17,.d (.sl ((varsS p).map encVar))),(18,.d (.int .i64 (varsS p).length)),(19,.d (.int .i64 i))] ∧
    H = ⟨B ++ layObjs p B.length cs i 0,T,none⟩
def L2I (p:Prog) (cs:List MCell) (B:List Obj) (T:List Nat) (k:Nat) (e:Env) (H:St):Prop:=
  ∃ i,i ≤ cs.length ∧ k = cs.length - i ∧
    e = [(5,.ref (B.length + 4) 0),(45,.d (.sl (cs.map encMC))),(46,.d (.int .i64 cs.length)),(47,.d (.int .i64 i))] ∧
    H = ⟨B ++ layObjs p B.length cs (varsS p).length i,T,none⟩
theorem lay_c (p:Prog) (hp:p.fit) (cs:List MCell) (hcs:cs.length ≤ 16) (B:List Obj) (T:List Nat) (lw:Option Nat) :
    CallsA prg 166 [progV p,.d (.sl (cs.map encMC))] ⟨B,T,lw⟩ (.ref (B.length + 4) 0) ⟨B ++ layObjs p B.length cs (varsS p).length cs.length,T,lw⟩:=by
  have hvc:=fun H=>WCall_of (vars_c p hp H)
  obtain ⟨hp1,hp2,hp3,hp4,hp5,hp6⟩:=hp
  have hl1:=hp2.1
  have hl2:=hp3.1
  have hl3:=hp4.1
  have hvl:(varsS p).length = p.ins.length + p.outs.length + p.locals.length:=by simp [varsS];omega
  unfold progV encProg at hvc ⊢
  simp only [dcells_cons,dcells_nil] at hvc ⊢
  refine calls_of2 rfl f166 ?_
  simp only [go_sem,c166,hvc,List.length_map,bnd,intOf]
  refine loop_I (L1I p cs B T) (varsS p).length ⟨0,Nat.zero_le _,rfl,rfl,rfl⟩ ?_
  clear hvc
  rintro k e H ⟨i,hi,rfl,rfl,rfl⟩
  simp only [go_sem,c166l0,layObjs]
  refine WG_intro (fun h=>?_) fun h=>?_
  · have hlt:i < (varsS p).length:=by simpa using h
    obtain ⟨v,hv0⟩:=at_of_lt hlt
    have e2:((varsS p).map encVar)[i]? = some (encVar v):=by simp [hv0]
    have hwi:IntKind.i64.wrap ((i:Int) + 1) = ((i + 1:Nat):Int):=by rw [wrap64 (by omega) (by omega)];omega
    have hwj:IntKind.i32.wrap (i:Int) = (i:Int):=wrap32 (by omega) (by omega)
    simp only [go_sem,h,e2,encVar,hwj]
    have hg:=i32M_get (sloM_ok (varsS p) i).1 v.name
    have hm1:sloM (varsS p) (i + 1) = putM (sloM (varsS p) i) v.name [.int .i32 i]:=by rw [sloM,hv0];rfl
    have ht1:sloT (varsS p) (i + 1) = putT (sloM (varsS p) i) v.name (sloT (varsS p) i):=by rw [sloT,hv0];rfl
    have hm2:clkM (varsS p) (i + 1) = putM (clkM (varsS p) i) v.name [.int .i64 v.clk.kind,.str v.clk.name]:=by rw [clkM,hv0];rfl
    have ht2:clkN (varsS p) (i + 1) = putT (clkM (varsS p) i) v.name (clkN (varsS p) i):=by rw [clkN,hv0];rfl
    refine kE2_of kS _ _ v.name _ _ _ rfl rfl ⟨sloM (varsS p) i,sloT (varsS p) i,by simp only [go_sem],(sloM_ok _ _).2,?_⟩
    simp only [go_sem,hg]
    refine kT2_of kS _ (sloM (varsS p) i) (sloT (varsS p) i) v.name _ _ _ _ _ rfl rfl (sloM_ok _ _).2 (by simp only [go_sem];rfl) ?_
    simp only [go_sem]
    refine kE2_of kS _ _ v.name _ _ _ rfl rfl ⟨clkM (varsS p) i,clkN (varsS p) i,by simp only [go_sem],clkM_birth _ _,?_⟩
    simp only [go_sem]
    refine kT2_of kS _ (clkM (varsS p) i) (clkN (varsS p) i) v.name _ _ _ _ _ rfl rfl (clkM_birth _ _) (by simp only [go_sem];rfl) ?_
    simp only [go_sem,hwi]
    refine ⟨_,by omega,i + 1,by omega,rfl,rfl,?_⟩
    rw [layObjs,hm1,ht1,hm2,ht2]
    rfl
  have hlt:i = (varsS p).length:=by have:=of_decide_eq_false h;omega
  subst hlt
  simp only [go_sem,h,List.length_map]
  refine loop_I (L2I p cs B T) cs.length ⟨0,Nat.zero_le _,rfl,rfl,rfl⟩ ?_
  clear h hi
  rintro k e H ⟨i,hi,rfl,rfl,rfl⟩
  simp only [go_sem,c166l1,layObjs]
  refine WG_intro (fun h=>?_) fun h=>?_
  · have hlt:i < cs.length:=by simpa using h
    obtain ⟨c,hc0⟩:=at_of_lt hlt
    have e2:(cs.map encMC)[i]? = some (encMC c):=by simp [hc0]
    have hwi:IntKind.i64.wrap ((i:Int) + 1) = ((i + 1:Nat):Int):=by rw [wrap64 (by omega) (by omega)];omega
    have hwj:IntKind.i32.wrap (i:Int) = (i:Int):=wrap32 (by omega) (by omega)
    simp only [go_sem,h,e2,encMC,hwj]
    refine WG_intro (fun h2=>?_) fun h2=>?_
    · have hnm:c.name = []:=by simpa using h2
      simp only [go_sem,h2,hwi,hwj]
      refine ⟨_,by omega,i + 1,by omega,rfl,rfl,?_⟩
      rw [layObjs,flgM,flgT,hc0]
      simp [hnm,cellsP]
    · have hnm:c.name ≠ []:=by simpa using h2
      simp only [go_sem,h2,hwi]
      refine ⟨_,by omega,i + 1,by omega,rfl,rfl,?_⟩
      rw [layObjs,flgM,flgT,hc0]
      simp [hnm,cellsP]
  · have hlt:i = cs.length:=by have:=of_decide_eq_false h;omega
    subst hlt
    simp only [go_sem,h]
end Am
namespace Am
open Go C
def Prog.small (p:Prog):Prop:=p.ins.length ≤ 10000 ∧ p.outs.length ≤ 10000 ∧ p.locals.length ≤ 10000 ∧ p.eqs.length ≤ 10000
def slotsP (p:Prog):Ents Str:=sloM (varsS p) (varsS p).length
def flagsP (p:Prog):Ents Clk:=flgM (cellsS p) (cellsS p).length
def planP (p:Prog):Plan:=planOf (slotsP p) (flagsP p)
def clkP (p:Prog) (s:Str):Clk:=clkAt (varsS p) s
def insC (p:Prog):Nat→List Ins
  | 0=>[]
  | j + 1=>insC p j ++ ([⟨6,j⟩] ++ [⟨3,(planP p).slot (p.ins[j]?.getD var0).name⟩])
def storeC (p:Prog) (q:Eqn) (t:Ins):List Ins:=underS (planP p).slot (clkP p q.name) (codeE (planP p) q.e (clkP p q.name) ++ [t])
structure EqSt where
  k:Nat
  head:List Ins
  tail:List Ins
def eqC (p:Prog):Nat→EqSt
  | 0=>⟨0,insC p p.ins.length,[]⟩
  | j + 1=>if (eqAtN p.eqs j).delay = 0 then eqC p j else
    ⟨(eqC p j).k + 1,(eqC p j).head ++ ([⟨4,(eqC p j).k⟩] ++ [⟨3,(planP p).slot (eqAtN p.eqs j).name⟩]),(eqC p j).tail ++ storeC p (eqAtN p.eqs j) ⟨5,(eqC p j).k⟩⟩
def cellAt (p:Prog) (j:Nat):MCell:=(cellsS p)[j]?.getD ⟨[],clk0,0⟩
def resC (p:Prog) (t:List Ins) (k:Nat):Nat→List Ins
  | 0=>t
  | j + 1=>resC p t k j ++ underS (planP p).slot (cellAt p (k + j)).clk ([⟨1,1⟩] ++ [⟨5,((k + j:Nat):Int)⟩])
def plainC (p:Prog):Nat→List Ins
  | 0=>[]
  | j + 1=>plainC p j ++ storeC p (eqAtN p.eqs (((orderS p).1[j]?.getD 0).toNat)) ⟨3,(planP p).slot (eqAtN p.eqs (((orderS p).1[j]?.getD 0).toNat)).name⟩
def outC (p:Prog) (t:List Ins):Nat→List Ins
  | 0=>t
  | j + 1=>outC p t j ++ ([⟨2,(planP p).slot (p.outs[j]?.getD var0).name⟩] ++ [⟨7,j⟩])
def eqE (p:Prog):EqSt:=eqC p p.eqs.length
def tailP (p:Prog):List Ins:=outC p (resC p (eqE p).tail (eqE p).k ((cellsS p).length - (eqE p).k)) p.outs.length
def fullP (p:Prog):List Ins:=(eqE p).head ++ (plainC p (orderS p).1.length ++ tailP p)
def genF (p:Prog):Fault:=if meanF p ≠ (0,0,0) then meanF p else if 600 < (fullP p).length then (4,0,3) else (0,0,0)
structure Frame where
  slots:Int
  old:Int
  new:Int
  ins:Int
  outs:Int
deriving DecidableEq
def encFrame (f:Frame):List D:=[.int .i64 f.slots,.int .i64 f.old,.int .i64 f.new,.int .i64 f.ins,.int .i64 f.outs]
def frame0:Frame:=⟨0,0,0,0,0⟩
def codeP (p:Prog):List Ins:=if genF p ≠ (0,0,0) then [] else fullP p
def frameP (p:Prog):Frame:=if genF p ≠ (0,0,0) then frame0 else ⟨(slotsP p).length,(cellsS p).length,(cellsS p).length,p.ins.length,p.outs.length⟩
theorem insC_len (p:Prog) (j:Nat):(insC p j).length = 2 * j:=by
  induction j with
  | zero=>rfl
  | succ j ih=>rw [insC];simp [ih];omega
theorem eqC_len (p:Prog) (hf:∀ q ∈ p.eqs,Form q.e ∧ q.e.size ≤ 120) (j:Nat) (hj:j ≤ p.eqs.length):(eqC p j).k ≤ j ∧ (eqC p j).head.length ≤ 2 * p.ins.length + 2 * j ∧ (eqC p j).tail.length ≤ 400 * j:=by
  induction j with
  | zero=>rw [eqC];simp [insC_len]
  | succ j ih=>
    obtain ⟨h1,h2,h3⟩:=ih (by omega)
    have hm:eqAtN p.eqs j ∈ p.eqs:=by
      obtain ⟨q,hq⟩:=at_of_lt (l:=p.eqs) (i:=j) (by omega)
      have:eqAtN p.eqs j = q:=by simp [eqAtN,hq]
      rw [this];exact List.mem_of_getElem? hq
    have h4:=hf _ hm
    have h5:=code_len (planP p) h4.1 (clkP p (eqAtN p.eqs j).name)
    rw [eqC]
    split
    · exact ⟨by omega,by omega,by omega⟩
    · refine ⟨by simp;omega,by simp;omega,?_⟩
      have h6:=under_len (planP p).slot (clkP p (eqAtN p.eqs j).name) (codeE (planP p) (eqAtN p.eqs j).e (clkP p (eqAtN p.eqs j).name) ++ [⟨5,(eqC p j).k⟩])
      simp only [storeC,List.length_append,List.length_cons,List.length_nil] at h6 ⊢
      omega
theorem resC_len (p:Prog) (t:List Ins) (k j:Nat):(resC p t k j).length ≤ t.length + 5 * j:=by
  induction j with
  | zero=>simp [resC]
  | succ j ih=>
    have h6:=under_len (planP p).slot (cellAt p (k + j)).clk ([⟨1,1⟩] ++ [⟨5,((k + j:Nat):Int)⟩])
    rw [resC]
    simp only [List.length_append,List.length_cons,List.length_nil] at h6 ⊢
    omega
theorem outC_len (p:Prog) (t:List Ins) (j:Nat):(outC p t j).length = t.length + 2 * j:=by
  induction j with
  | zero=>simp [outC]
  | succ j ih=>rw [outC];simp [ih];omega
theorem plainC_len (p:Prog) (hf:∀ q ∈ p.eqs,Form q.e ∧ q.e.size ≤ 120) (j:Nat) (hj:j ≤ (orderS p).1.length):(plainC p j).length ≤ 400 * j:=by
  induction j with
  | zero=>simp [plainC]
  | succ j ih=>
    have h1:=ih (by omega)
    obtain ⟨x,hx⟩:=at_of_lt (l:=(orderS p).1) (i:=j) (by omega)
    obtain ⟨k,hk,rfl⟩:=order_range p x (List.mem_of_getElem? hx)
    have hm:eqAtN p.eqs k ∈ p.eqs:=by
      obtain ⟨q,hq⟩:=at_of_lt (l:=p.eqs) (i:=k) hk
      have:eqAtN p.eqs k = q:=by simp [eqAtN,hq]
      rw [this];exact List.mem_of_getElem? hq
    have h4:=hf _ hm
    have h5:=code_len (planP p) h4.1 (clkP p (eqAtN p.eqs k).name)
    rw [plainC,hx]
    simp only [Option.getD_some,Int.toNat_natCast]
    have h6:=under_len (planP p).slot (clkP p (eqAtN p.eqs k).name) (codeE (planP p) (eqAtN p.eqs k).e (clkP p (eqAtN p.eqs k).name) ++ [⟨3,(planP p).slot (eqAtN p.eqs k).name⟩])
    simp only [storeC,List.length_append,List.length_cons,List.length_nil] at h6 ⊢
    omega
structure Piece (v:HV) (l:List Ins):Prop where
  row:toDs v.cells = some [insV l]
  und:∀ a b,HV.under a b v = true
theorem piece_d (l:List Ins):Piece (.d (insV l)) l:=⟨rfl,fun _ _=>rfl⟩
theorem piece_own:Piece (.own [] .exact) []:=⟨rfl,fun _ _=>rfl⟩
theorem mean_start {p:Prog} (h:meanF p = (0,0,0)):startS p = (0,0,0):=by
  unfold meanF at h
  split at h
  · rename_i h1;exact absurd h h1
  · rename_i h1;simpa using h1
theorem start_order {p:Prog} (h:startS p = (0,0,0)):(orderS p).2 = (0,0,0):=by
  unfold startS at h
  split at h
  · rename_i h1;exact absurd h h1
  · rename_i h1;simpa using h1
theorem mean_forms {p:Prog} (h:meanF p = (0,0,0)):∀ q ∈ p.eqs,Form q.e ∧ q.e.size ≤ 120:=by
  have hw:=(order_whole (start_order (mean_start h))).2
  intro q hq
  exact ⟨form_of _ _ (Nat.le_refl _) (whole_eq hw hq).1,whole_size hw q hq⟩
end Am
namespace Am
open Go C
def zF:Obj:=.cells [.d (.int .i64 0),.d (.int .i64 0),.d (.int .i64 0),.d (.int .i64 0),.d (.int .i64 0)]
def gObjs (p:Prog) (n:Nat):List Obj:=
  [cellsP p,zF,z3,z3,cellsP p,mapO kS false (slotsP p) (sloT (varsS p) (varsS p).length),mapO kS true (clkM (varsS p) (varsS p).length) (clkN (varsS p) (varsS p).length),mapO kC false (flagsP p) (flgT (cellsS p) (cellsS p).length),
    .cells [.map (n + 5),.map (n + 6),.map (n + 7),.d (.sl ((cellsS p).map encMC))]]
def gEnv (p:Prog) (n:Nat) (v8 v9 v10:HV):Env:=
  [(1,.ref n 0),(3,.ref (n + 1) 0),(4,.ref (n + 2) 0),(5,.d (.sl ((cellsS p).map encMC))),(6,.ref (n + 3) 0),(7,.ref (n + 8) 0),(8,v8),(9,v9),(10,v10)]
theorem g_plan (p:Prog) (B X:List Obj):PlanAt (B ++ (gObjs p B.length ++ X)) (B.length + 8) (B.length + 5) (B.length + 6) (B.length + 7) (.d (.sl ((cellsS p).map encMC))) (slotsP p) (sloT (varsS p) (varsS p).length) (flagsP p) (flgT (cellsS p) (cellsS p).length):=
  ⟨by simp only [gObjs,go_sem],by simp only [gObjs,go_sem],by simp only [gObjs,go_sem],(sloM_ok _ _).1,flgM_ok _ _⟩
def GC0I (p:Prog) (B:List Obj) (T:List Nat) (k:Nat) (e:Env) (H:St):Prop:=
  ∃ (i:Nat) (v8:HV),i ≤ p.ins.length ∧ k = p.ins.length - i ∧ Piece v8 (insC p i) ∧
    e = gEnv p B.length v8 (.own [] .exact) (.own [] .exact) ++ [(39,.d (.sl (p.ins.map encVar))),(40,.d (.int .i64 p.ins.length)),(41,.d (.int .i64 i))] ∧
    H = ⟨B ++ gObjs p B.length,T,none⟩
def GC1I (p:Prog) (B:List Obj) (T:List Nat) (k:Nat) (e:Env) (H:St):Prop:=
  ∃ (i:Nat) (v8 v9:HV),i ≤ p.eqs.length ∧ k = p.eqs.length - i ∧ Piece v8 (eqC p i).head ∧ Piece v9 (eqC p i).tail ∧
    e = gEnv p B.length v8 v9 (.own [] .exact) ++ [(13,.d (.int .i32 (eqC p i).k)),(62,.d (.sl (p.eqs.map encEq))),(63,.d (.int .i64 p.eqs.length)),(64,.d (.int .i64 i))] ∧
    H = ⟨B ++ gObjs p B.length,T,none⟩
def GC2I (p:Prog) (B:List Obj) (T:List Nat) (k:Nat) (e:Env) (H:St):Prop:=
  ∃ (j:Nat) (v8 v9:HV),j ≤ (cellsS p).length - (eqE p).k ∧ k = (cellsS p).length - (eqE p).k - j ∧ Piece v8 (eqE p).head ∧ Piece v9 (resC p (eqE p).tail (eqE p).k j) ∧
    e = gEnv p B.length v8 v9 (.own [] .exact) ++ [(13,.d (.int .i32 ((eqE p).k + j:Nat)))] ∧
    H = ⟨B ++ gObjs p B.length,T,none⟩
def GC3I (p:Prog) (v8 v9:HV) (B:List Obj) (T:List Nat) (k:Nat) (e:Env) (H:St):Prop:=
  ∃ (i:Nat) (v10:HV),i ≤ (orderS p).1.length ∧ k = (orderS p).1.length - i ∧ Piece v10 (plainC p i) ∧
    e = gEnv p B.length v8 v9 v10 ++ [(136,.d (.sl (intRows (orderS p).1))),(137,.d (.int .i64 (orderS p).1.length)),(138,.d (.int .i64 i))] ∧
    H = ⟨B ++ (gObjs p B.length ++ [z3]),T,none⟩
def GC4I (p:Prog) (v8 v10:HV) (B:List Obj) (T:List Nat) (k:Nat) (e:Env) (H:St):Prop:=
  ∃ (i:Nat) (v9:HV),i ≤ p.outs.length ∧ k = p.outs.length - i ∧ Piece v9 (outC p (resC p (eqE p).tail (eqE p).k ((cellsS p).length - (eqE p).k)) i) ∧
    e = gEnv p B.length v8 v9 v10 ++ [(177,.d (.sl (p.outs.map encVar))),(178,.d (.int .i64 p.outs.length)),(179,.d (.int .i64 i))] ∧
    H = ⟨B ++ (gObjs p B.length ++ [z3]),T,none⟩
theorem row3p {a b c:List Ins} {u v w:D} (hu:u = insV a) (hv:v = insV b) (hw:w = insV c) (h1:a.length ≤ 100000000) (h2:b.length ≤ 100000000) (h3:c.length ≤ 100000000) (H:St) :
    CallsA prg 167 [.own [[u],[v],[w]] .exact] H (.d (insV (a ++ (b ++ c)))) H:=by subst hu hv hw;exact row3 a b c h1 h2 h3 H
theorem gen_loop0 (p:Prog) (hs:p.small) (B:List Obj) (T:List Nat) (K:Out→Env→St→Prop)
    (hK:∀ v8,Piece v8 (insC p p.ins.length)→K (.exit 0) (gEnv p B.length v8 (.own [] .exact) (.own [] .exact) ++ [(39,.d (.sl (p.ins.map encVar))),(40,.d (.int .i64 p.ins.length)),(41,.d (.int .i64 p.ins.length)),(42,.d (.bool false))]) ⟨B ++ gObjs p B.length,T,none⟩) :
    WC prg (.loop [1,3,4,5,6,7,8,9,10,39,40,41] c112l0) K (gEnv p B.length (.own [] .exact) (.own [] .exact) (.own [] .exact) ++ [(39,.d (.sl (p.ins.map encVar))),(40,.d (.int .i64 p.ins.length)),(41,.d (.int .i64 (0:Nat)))]) ⟨B ++ gObjs p B.length,T,none⟩:=by
  have h1:=fun a b H=>WCall_of (one_c a b H)
  obtain ⟨hs1,hs2,hs3,hs4⟩:=hs
  refine loop_I (GC0I p B T) p.ins.length ⟨0,.own [] .exact,Nat.zero_le _,rfl,piece_own,rfl,rfl⟩ ?_
  rintro k e H ⟨i,v8,hi,rfl,hv8,rfl,rfl⟩
  have hr8:=hv8.row
  have hu8:=hv8.und
  simp only [go_sem,c112l0,gObjs,gEnv,z3,zF]
  refine WG_intro (fun h=>?_) fun h=>?_
  · have hlt:i < p.ins.length:=by simpa using h
    obtain ⟨v,hv0⟩:=at_of_lt hlt
    have e2:(p.ins.map encVar)[i]? = some (encVar v):=by simp [hv0]
    have hg:=i32M_get (sloM_ok (varsS p) (varsS p).length).1 v.name
    have hwi:IntKind.i64.wrap ((i:Int) + 1) = ((i + 1:Nat):Int):=by rw [wrap64 (by omega) (by omega)];omega
    have hwj:IntKind.i32.wrap (i:Int) = (i:Int):=wrap32 (by omega) (by omega)
    have hin:=insC_len p i
    have hr:=fun H=>WCall_of (row3 (insC p i) [⟨6,i⟩] [⟨3,n32 (getM (slotsP p) v.name)⟩] (by omega) (by simp) (by simp) H)
    have hnx:insC p (i + 1) = insC p i ++ ([⟨6,i⟩] ++ [⟨3,n32 (getM (slotsP p) v.name)⟩]):=by rw [insC,hv0];rfl
    rw [← hnx] at hr
    unfold slotsP at hr ⊢
    simp only [go_sem,h,e2,encVar,hwj,h1,hg,hr8,hr,hwi,hu8]
    exact ⟨_,by omega,i + 1,_,by omega,rfl,piece_d _,rfl,rfl⟩
  · have hlt:i = p.ins.length:=by have:=of_decide_eq_false h;omega
    subst hlt
    simp only [go_sem,h]
    have:=hK v8 hv8
    simp only [gEnv,gObjs,go_sem,z3,zF] at this
    exact this
end Am
namespace Am
open Go C
set_option maxRecDepth 20000
theorem gen_loop1 (p:Prog) (hs:p.small) (hf:∀ q ∈ p.eqs,Form q.e ∧ q.e.size ≤ 120) (B:List Obj) (T:List Nat) (K:Out→Env→St→Prop) (v80:HV) (hv80:Piece v80 (insC p p.ins.length))
    (hK:∀ v8 v9,Piece v8 (eqE p).head→Piece v9 (eqE p).tail→K (.exit 2) (gEnv p B.length v8 v9 (.own [] .exact) ++ [(13,.d (.int .i32 (eqE p).k)),(62,.d (.sl (p.eqs.map encEq))),(63,.d (.int .i64 p.eqs.length)),(64,.d (.int .i64 p.eqs.length)),(65,.d (.bool false))]) ⟨B ++ gObjs p B.length,T,none⟩) :
    WC prg (.loop [1,3,4,5,6,7,8,9,10,13,62,63,64] c112l1) K (gEnv p B.length v80 (.own [] .exact) (.own [] .exact) ++ [(13,.d (.int .i32 (0:Nat))),(62,.d (.sl (p.eqs.map encEq))),(63,.d (.int .i64 p.eqs.length)),(64,.d (.int .i64 (0:Nat)))]) ⟨B ++ gObjs p B.length,T,none⟩:=by
  have h1:=fun a b H=>WCall_of (one_c a b H)
  obtain ⟨hs1,hs2,hs3,hs4⟩:=hs
  refine loop_I (GC1I p B T) p.eqs.length ⟨0,v80,.own [] .exact,Nat.zero_le _,rfl,hv80,piece_own,rfl,rfl⟩ ?_
  rintro k e H ⟨i,v8,v9,hi,rfl,hv8,hv9,rfl,rfl⟩
  have hr8:=hv8.row
  have hu8:=hv8.und
  have hr9:=hv9.row
  have hu9:=hv9.und
  simp only [go_sem,c112l1,gObjs,gEnv,z3,zF]
  refine WG_intro (fun h=>?_) fun h=>?_
  · have hlt:i < p.eqs.length:=by simpa using h
    obtain ⟨q,hq0⟩:=at_of_lt hlt
    have hmem:=List.mem_of_getElem? hq0
    have hqn:eqAtN p.eqs i = q:=by simp [eqAtN,hq0]
    have e2:(p.eqs.map encEq)[i]? = some (encEq q):=by simp [hq0]
    have hwi:IntKind.i64.wrap ((i:Int) + 1) = ((i + 1:Nat):Int):=by rw [wrap64 (by omega) (by omega)];omega
    simp only [go_sem,h,e2,encEq]
    refine WG_intro (fun h2=>?_) fun h2=>?_
    · have hd:q.delay = 0:=by simpa using h2
      have hsame:eqC p (i + 1) = eqC p i:=by rw [eqC,hqn,if_pos hd]
      simp only [go_sem,h2,hwi,hu8,hu9]
      exact ⟨_,by omega,i + 1,v8,v9,by omega,rfl,by rw [hsame];exact hv8,by rw [hsame];exact hv9,by rw [hsame];rfl,rfl⟩
    · have hd:q.delay ≠ 0:=by simpa using h2
      obtain ⟨k1,k2,k3⟩:=eqC_len p hf i (by omega)
      obtain ⟨f1,f2⟩:=hf q hmem
      have hg:=i32M_get (sloM_ok (varsS p) (varsS p).length).1 q.name
      have hck:=clkAt_get (varsS p) q.name
      have hcl:=code_len (planP p) f1 (clkP p q.name)
      have hxp:=fun X lw=>WCall_of (expr_ok (B.length + 8) (slotsP p) (flagsP p) f1 (by omega) _ T lw _ _ _ _ _ _ (g_plan p B X) (clkP p q.name))
      have hun:=fun X lw=>WCall_of (under_c (clkP p q.name) (codeE (planP p) q.e (clkP p q.name) ++ [⟨5,(eqC p i).k⟩]) (by simp;omega) (B.length + 8) _ _ _ _ _ _ _ _ _ T lw (g_plan p B X))
      have hr1:=fun H=>WCall_of (row3 (eqC p i).head [⟨4,(eqC p i).k⟩] [⟨3,n32 (getM (slotsP p) q.name)⟩] (by omega) (by simp) (by simp) H)
      have hr2:=fun H=>WCall_of (row2 (codeE (planP p) q.e (clkP p q.name)) [⟨5,(eqC p i).k⟩] (by omega) (by simp) H)
      have hu:=under_len (planP p).slot (clkP p q.name) (codeE (planP p) q.e (clkP p q.name) ++ [⟨5,(eqC p i).k⟩])
      have hr3:=fun H=>WCall_of (row2 (eqC p i).tail (underS (planP p).slot (clkP p q.name) (codeE (planP p) q.e (clkP p q.name) ++ [⟨5,(eqC p i).k⟩])) (by omega) (by simp at hu;omega) H)
      have hwk:IntKind.i32.wrap (((eqC p i).k:Int) + 1) = (((eqC p i).k + 1:Nat):Int):=by rw [wrap32 (by omega) (by omega)];omega
      have hnx:eqC p (i + 1) = ⟨(eqC p i).k + 1,(eqC p i).head ++ ([⟨4,(eqC p i).k⟩] ++ [⟨3,n32 (getM (slotsP p) q.name)⟩]),(eqC p i).tail ++ underS (planP p).slot (clkP p q.name) (codeE (planP p) q.e (clkP p q.name) ++ [⟨5,(eqC p i).k⟩])⟩:=by rw [eqC,hqn,if_neg hd];rfl
      unfold exV clkV at hxp
      unfold clkV at hun
      unfold planP slotsP clkP at *
      simp only [gObjs,go_sem,z3,zF,slotsP] at hxp hun
      simp only [go_sem,h2,h1,hg,hr8,hr1,hck,hxp,hr2,hun,hr9,hr3,hwk,hwi]
      refine ⟨_,by omega,i + 1,_,_,by omega,rfl,by rw [hnx];exact piece_d _,by rw [hnx];exact piece_d _,by rw [hnx];rfl,rfl⟩
  · have hlt:i = p.eqs.length:=by have:=of_decide_eq_false h;omega
    subst hlt
    simp only [go_sem,h]
    have:=hK v8 v9 hv8 hv9
    simp only [gEnv,gObjs,go_sem,z3,zF] at this
    exact this
end Am
namespace Am
open Go C
set_option maxRecDepth 20000
theorem gen_loop2 (p:Prog) (hs:p.small) (hf:∀ q ∈ p.eqs,Form q.e ∧ q.e.size ≤ 120) (B:List Obj) (T:List Nat) (K:Out→Env→St→Prop) (v8 v90:HV) (hv8:Piece v8 (eqE p).head) (hv90:Piece v90 (eqE p).tail)
    (hK:∀ v8 v9 k,Piece v8 (eqE p).head→Piece v9 (resC p (eqE p).tail (eqE p).k ((cellsS p).length - (eqE p).k))→K (.exit 4) (gEnv p B.length v8 v9 (.own [] .exact) ++ [(13,k),(113,.d (.bool false))]) ⟨B ++ gObjs p B.length,T,none⟩) :
    WC prg (.loop [1,3,4,5,6,7,8,9,10,13] c112l2) K (gEnv p B.length v8 v90 (.own [] .exact) ++ [(13,.d (.int .i32 (eqE p).k))]) ⟨B ++ gObjs p B.length,T,none⟩:=by
  have h1:=fun a b H=>WCall_of (one_c a b H)
  have hcl:=cellsS_len p
  obtain ⟨hs1,hs2,hs3,hs4⟩:=hs
  obtain ⟨k1,k2,k3⟩:=eqC_len p hf p.eqs.length (Nat.le_refl _)
  change (eqE p).k ≤ _ at k1
  change (eqE p).head.length ≤ _ at k2
  change (eqE p).tail.length ≤ _ at k3
  refine loop_I (GC2I p B T) ((cellsS p).length - (eqE p).k) ⟨0,v8,v90,Nat.zero_le _,rfl,hv8,hv90,rfl,rfl⟩ ?_
  clear hv8 hv90
  rintro k e H ⟨j,v8,v9,hi,rfl,hv8,hv9,rfl,rfl⟩
  have hr8:=hv8.row
  have hu8:=hv8.und
  have hr9:=hv9.row
  have hu9:=hv9.und
  have hw6:IntKind.i64.wrap ((((eqE p).k + j:Nat)):Int) = (((eqE p).k + j:Nat):Int):=wrap64 (by omega) (by omega)
  simp only [go_sem,c112l2,gObjs,gEnv,z3,zF,hw6,List.length_map]
  refine WG_intro (fun h=>?_) fun h=>?_
  · have hlt:(eqE p).k + j < (cellsS p).length:=by have:=of_decide_eq_true h;omega
    obtain ⟨c,hc0⟩:=at_of_lt hlt
    have e2:((cellsS p).map encMC)[(eqE p).k + j]? = some (encMC c):=by simp [hc0]
    have hca:cellAt p ((eqE p).k + j) = c:=by simp [cellAt,hc0]
    have hw7:IntKind.i32.wrap ((((eqE p).k + j:Nat):Int) + 1) = (((eqE p).k + (j + 1):Nat):Int):=by rw [wrap32 (by omega) (by omega)];omega
    have hrl:=resC_len p (eqE p).tail (eqE p).k j
    have hun:=fun X lw=>WCall_of (under_c c.clk ([⟨1,1⟩] ++ [⟨5,(((eqE p).k + j:Nat):Int)⟩]) (by simp) (B.length + 8) _ _ _ _ _ _ _ _ _ T lw (g_plan p B X))
    have hr2:=fun H=>WCall_of (row2 [⟨1,1⟩] [⟨5,(((eqE p).k + j:Nat):Int)⟩] (by simp) (by simp) H)
    have hul:=under_len (planP p).slot c.clk ([⟨1,1⟩] ++ [⟨5,(((eqE p).k + j:Nat):Int)⟩])
    have hr3:=fun H=>WCall_of (row2 (resC p (eqE p).tail (eqE p).k j) (underS (planP p).slot c.clk ([⟨1,1⟩] ++ [⟨5,(((eqE p).k + j:Nat):Int)⟩])) (by omega) (by simp at hul ⊢;omega) H)
    have hnx:resC p (eqE p).tail (eqE p).k (j + 1) = resC p (eqE p).tail (eqE p).k j ++ underS (planP p).slot c.clk ([⟨1,1⟩] ++ [⟨5,(((eqE p).k + j:Nat):Int)⟩]):=by rw [resC,hca]
    rw [← hnx] at hr3
    unfold clkV at hun
    change ∀ X lw K,WCall prg 169 _ _ K = K (.d (insV (underS (planP p).slot _ _))) _ at hun
    simp only [List.cons_append,List.nil_append] at hr2 hr3
    simp only [gObjs,go_sem,z3,zF] at hun
    simp only [go_sem,h,h1,e2,encMC,hun,hr2,hr9,hr3,hu8,hu9,hw7]
    exact ⟨_,by omega,j + 1,_,_,by omega,rfl,hv8,piece_d _,rfl,rfl⟩
  · have hlt:j = (cellsS p).length - (eqE p).k:=by have:=of_decide_eq_false h;omega
    subst hlt
    simp only [go_sem,h]
    have:=hK v8 v9 (.d (.int .i32 (((eqE p).k + ((cellsS p).length - (eqE p).k):Nat):Int))) hv8 hv9
    simp only [gEnv,gObjs,go_sem,z3,zF] at this
    exact this
end Am
