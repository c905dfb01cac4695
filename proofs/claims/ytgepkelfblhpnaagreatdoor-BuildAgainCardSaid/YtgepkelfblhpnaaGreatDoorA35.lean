/- A part of the proof of BuildAgain: no condition of its own. Whence: AmGenA, AmGenB, AmJdg1, AmJdg2, AmJdg3. -/
import Derived.Test.YtgepkelfblhpnaaGreatDoorA34
set_option linter.all false
namespace Am
open Go C
set_option maxRecDepth 20000
theorem gen_loop3 (p:Prog) (hs:p.small) (hf:∀ q ∈ p.eqs,Form q.e ∧ q.e.size ≤ 120) (B:List Obj) (T:List Nat) (K:Out→Env→St→Prop) (v8 v9:HV) (l8 l9:List Ins) (hv8:Piece v8 l8) (hv9:Piece v9 l9)
    (hK:∀ v10,Piece v10 (plainC p (orderS p).1.length)→K (.exit 6) (gEnv p B.length v8 v9 v10 ++ [(136,.d (.sl (intRows (orderS p).1))),(137,.d (.int .i64 (orderS p).1.length)),(138,.d (.int .i64 (orderS p).1.length)),(139,.d (.bool false))]) ⟨B ++ (gObjs p B.length ++ [z3]),T,none⟩) :
    WC prg (.loop [1,3,4,5,6,7,8,9,10,136,137,138] c112l3) K (gEnv p B.length v8 v9 (.own [] .exact) ++ [(136,.d (.sl (intRows (orderS p).1))),(137,.d (.int .i64 (orderS p).1.length)),(138,.d (.int .i64 (0:Nat)))]) ⟨B ++ (gObjs p B.length ++ [z3]),T,none⟩:=by
  have h1:=fun a b H=>WCall_of (one_c a b H)
  have hol:=order_len p
  obtain ⟨hs1,hs2,hs3,hs4⟩:=hs
  refine loop_I (GC3I p v8 v9 B T) (orderS p).1.length ⟨0,.own [] .exact,Nat.zero_le _,rfl,piece_own,rfl,rfl⟩ ?_
  rintro k e H ⟨i,v10,hi,rfl,hv10,rfl,rfl⟩
  have hu8:=hv8.und
  have hu9:=hv9.und
  have hr10:=hv10.row
  have hu10:=hv10.und
  simp only [go_sem,c112l3,gObjs,gEnv,z3,zF]
  refine WG_intro (fun h=>?_) fun h=>?_
  · have hlt:i < (orderS p).1.length:=by simpa using h
    obtain ⟨x,hx0⟩:=at_of_lt hlt
    obtain ⟨k,hk,rfl⟩:=order_range p x (List.mem_of_getElem? hx0)
    obtain ⟨q,hq0⟩:=at_of_lt hk
    have hmem:=List.mem_of_getElem? hq0
    have hqn:eqAtN p.eqs k = q:=by simp [eqAtN,hq0]
    have e1:(intRows (orderS p).1)[i]? = some [.int .i64 (k:Int)]:=by simp [intRows,hx0]
    have e2:(p.eqs.map encEq)[k]? = some (encEq q):=by simp [hq0]
    have hwi:IntKind.i64.wrap ((i:Int) + 1) = ((i + 1:Nat):Int):=by rw [wrap64 (by omega) (by omega)];omega
    obtain ⟨f1,f2⟩:=hf q hmem
    have hg:=i32M_get (sloM_ok (varsS p) (varsS p).length).1 q.name
    have hck:=clkAt_get (varsS p) q.name
    have hcl:=code_len (planP p) f1 (clkP p q.name)
    have hpl:=plainC_len p hf i (by omega)
    have hxp:=fun X lw=>WCall_of (expr_ok (B.length + 8) (slotsP p) (flagsP p) f1 (by omega) _ T lw _ _ _ _ _ _ (g_plan p B X) (clkP p q.name))
    have hun:=fun X lw=>WCall_of (under_c (clkP p q.name) (codeE (planP p) q.e (clkP p q.name) ++ [⟨3,n32 (getM (slotsP p) q.name)⟩]) (by simp;omega) (B.length + 8) _ _ _ _ _ _ _ _ _ T lw (g_plan p B X))
    have hr2:=fun H=>WCall_of (row2 (codeE (planP p) q.e (clkP p q.name)) [⟨3,n32 (getM (slotsP p) q.name)⟩] (by omega) (by simp) H)
    have hu:=under_len (planP p).slot (clkP p q.name) (codeE (planP p) q.e (clkP p q.name) ++ [⟨3,n32 (getM (slotsP p) q.name)⟩])
    have hr3:=fun H=>WCall_of (row2 (plainC p i) (underS (planP p).slot (clkP p q.name) (codeE (planP p) q.e (clkP p q.name) ++ [⟨3,n32 (getM (slotsP p) q.name)⟩])) (by omega) (by simp at hu;omega) H)
    have hnx:plainC p (i + 1) = plainC p i ++ underS (planP p).slot (clkP p q.name) (codeE (planP p) q.e (clkP p q.name) ++ [⟨3,n32 (getM (slotsP p) q.name)⟩]):=by
      rw [plainC,hx0,Option.getD_some,Int.toNat_natCast,hqn];rfl
    unfold exV clkV at hxp
    unfold clkV at hun
    unfold planP slotsP clkP at *
    simp only [gObjs,go_sem,z3,zF,slotsP] at hxp hun
    simp only [go_sem,h,e1,e2,encEq,h1,hg,hck,hxp,hr2,hun,hr10,hr3,hwi,hu8,hu9]
    refine ⟨_,by omega,i + 1,_,by omega,rfl,by rw [hnx];exact piece_d _,rfl,rfl⟩
  · have hlt:i = (orderS p).1.length:=by have:=of_decide_eq_false h;omega
    subst hlt
    simp only [go_sem,h]
    have:=hK v10 hv10
    simp only [gEnv,gObjs,go_sem,z3,zF] at this
    exact this
theorem gen_loop4 (p:Prog) (hs:p.small) (hf:∀ q ∈ p.eqs,Form q.e ∧ q.e.size ≤ 120) (B:List Obj) (T:List Nat) (K:Out→Env→St→Prop) (v8 v90 v10:HV) (l8 l10:List Ins) (hv8:Piece v8 l8) (hv10:Piece v10 l10)
    (hv90:Piece v90 (resC p (eqE p).tail (eqE p).k ((cellsS p).length - (eqE p).k)))
    (hK:∀ v9,Piece v9 (tailP p)→K (.exit 8) (gEnv p B.length v8 v9 v10 ++ [(177,.d (.sl (p.outs.map encVar))),(178,.d (.int .i64 p.outs.length)),(179,.d (.int .i64 p.outs.length)),(180,.d (.bool false))]) ⟨B ++ (gObjs p B.length ++ [z3]),T,none⟩) :
    WC prg (.loop [1,3,4,5,6,7,8,9,10,177,178,179] c112l4) K (gEnv p B.length v8 v90 v10 ++ [(177,.d (.sl (p.outs.map encVar))),(178,.d (.int .i64 p.outs.length)),(179,.d (.int .i64 (0:Nat)))]) ⟨B ++ (gObjs p B.length ++ [z3]),T,none⟩:=by
  have h1:=fun a b H=>WCall_of (one_c a b H)
  have hcl:=cellsS_len p
  obtain ⟨hs1,hs2,hs3,hs4⟩:=hs
  obtain ⟨k1,k2,k3⟩:=eqC_len p hf p.eqs.length (Nat.le_refl _)
  change (eqE p).tail.length ≤ _ at k3
  refine loop_I (GC4I p v8 v10 B T) p.outs.length ⟨0,v90,Nat.zero_le _,rfl,hv90,rfl,rfl⟩ ?_
  rintro k e H ⟨i,v9,hi,rfl,hv9,rfl,rfl⟩
  have hu8:=hv8.und
  have hr9:=hv9.row
  have hu9:=hv9.und
  have hu10:=hv10.und
  simp only [go_sem,c112l4,gObjs,gEnv,z3,zF]
  refine WG_intro (fun h=>?_) fun h=>?_
  · have hlt:i < p.outs.length:=by simpa using h
    obtain ⟨v,hv0⟩:=at_of_lt hlt
    have e2:(p.outs.map encVar)[i]? = some (encVar v):=by simp [hv0]
    have hg:=i32M_get (sloM_ok (varsS p) (varsS p).length).1 v.name
    have hwi:IntKind.i64.wrap ((i:Int) + 1) = ((i + 1:Nat):Int):=by rw [wrap64 (by omega) (by omega)];omega
    have hwj:IntKind.i32.wrap (i:Int) = (i:Int):=wrap32 (by omega) (by omega)
    have hrl:=resC_len p (eqE p).tail (eqE p).k ((cellsS p).length - (eqE p).k)
    have hol:=outC_len p (resC p (eqE p).tail (eqE p).k ((cellsS p).length - (eqE p).k)) i
    have hr:=fun H=>WCall_of (row3 (outC p (resC p (eqE p).tail (eqE p).k ((cellsS p).length - (eqE p).k)) i) [⟨2,n32 (getM (slotsP p) v.name)⟩] [⟨7,i⟩] (by omega) (by simp) (by simp) H)
    have hnx:outC p (resC p (eqE p).tail (eqE p).k ((cellsS p).length - (eqE p).k)) (i + 1) = outC p (resC p (eqE p).tail (eqE p).k ((cellsS p).length - (eqE p).k)) i ++ ([⟨2,n32 (getM (slotsP p) v.name)⟩] ++ [⟨7,i⟩]):=by rw [outC,hv0];rfl
    rw [← hnx] at hr
    unfold slotsP at hr ⊢
    simp only [go_sem,h,e2,encVar,hwj,h1,hg,hr9,hr,hwi,hu8,hu10]
    exact ⟨_,by omega,i + 1,_,by omega,rfl,piece_d _,rfl,rfl⟩
  · have hlt:i = p.outs.length:=by have:=of_decide_eq_false h;omega
    subst hlt
    simp only [go_sem,h]
    have:=hK v9 hv9
    simp only [gEnv,gObjs,go_sem,z3,zF] at this
    exact this
end Am
namespace Am
open Go C
set_option maxRecDepth 20000
theorem code_c (p:Prog) (hp:p.fit) (hs:p.small) (H:St):CallsA prg 112 [progV p] H (.tup [.d (insV (codeP p)),.agg (dcells (encFrame (frameP p))),faultV (genF p)]) H:=by
  have hcc:=fun H=>WCall_of (cells_c p hp H)
  have hoc:=fun H=>WCall_of (order_c p hp H)
  have hlc:=fun B T lw=>WCall_of (lay_c p hp (cellsS p) (cellsS_len p) B T lw)
  have hs':=hs
  have hcl:=cellsS_len p
  have hol:=order_len p
  obtain ⟨hs1,hs2,hs3,hs4⟩:=hs
  unfold progV encProg at hcc hoc hlc ⊢
  unfold faultV at hcc hoc ⊢
  simp only [dcells_cons,dcells_nil] at hcc hoc hlc ⊢
  refine calls_of2 rfl f112 ?_
  obtain ⟨B,T,lw⟩:=H
  simp only [go_sem,c112,hcc]
  refine WG_intro (fun t=>?_) fun t=>?_
  rotate_left
  · have h0:meanF p ≠ (0,0,0):=of_decide_eq_false t
    have e1:genF p = meanF p:=by unfold genF;rw [if_pos h0]
    have e2:codeP p = []:=by unfold codeP;rw [if_pos (by rw [e1];exact h0)]
    have e3:frameP p = frame0:=by unfold frameP;rw [if_pos (by rw [e1];exact h0)]
    simp only [go_sem,t]
    rw [e1,e2,e3]
    rfl
  have h0:meanF p = (0,0,0):=of_decide_eq_true t
  have hf:=mean_forms h0
  obtain ⟨k1,k2,k3⟩:=eqC_len p hf p.eqs.length (Nat.le_refl _)
  change (eqE p).head.length ≤ _ at k2
  change (eqE p).tail.length ≤ _ at k3
  have hrl:=resC_len p (eqE p).tail (eqE p).k ((cellsS p).length - (eqE p).k)
  have htl:(tailP p).length ≤ 5000000:=by unfold tailP;rw [outC_len];omega
  have hpl:=plainC_len p hf (orderS p).1.length (Nat.le_refl _)
  have hn:∀ k,B.length + 4 + k = B.length + (k + 4):=fun k=>by omega
  have e9:layObjs p (B.length + 4) (cellsS p) (varsS p).length (cellsS p).length = [cellsP p,mapO kS false (slotsP p) (sloT (varsS p) (varsS p).length),mapO kS true (clkM (varsS p) (varsS p).length) (clkN (varsS p) (varsS p).length),mapO kC false (flagsP p) (flgT (cellsS p) (cellsS p).length),
    .cells [.map (B.length + 5),.map (B.length + 6),.map (B.length + 7),.d (.sl ((cellsS p).map encMC))]]:=rfl
  simp only [go_sem,t,h0,hlc,List.length_map,hn,e9]
  have goal0:=gen_loop0 p hs' B T
  simp only [gEnv,gObjs,go_sem,z3,zF,Int.natCast_zero] at goal0
  refine goal0 _ fun v8 hv8=>?_
  clear goal0
  simp only [go_sem,List.length_map]
  have goal1:=gen_loop1 p hs' hf B T
  simp only [gEnv,gObjs,go_sem,z3,zF,Int.natCast_zero] at goal1
  refine goal1 _ v8 hv8 fun v8 v9 hv8 hv9=>?_
  clear goal1
  simp only [go_sem]
  have goal2:=gen_loop2 p hs' hf B T
  simp only [gEnv,gObjs,go_sem,z3,zF,Int.natCast_zero] at goal2
  refine goal2 _ v8 v9 hv8 hv9 fun v8 v9 kk hv8 hv9=>?_
  clear goal2
  have hord:=start_order (mean_start h0)
  simp only [go_sem,hoc,intRows_len,hord]
  have goal3:=gen_loop3 p hs' hf B T
  simp only [gEnv,gObjs,go_sem,z3,zF,Int.natCast_zero] at goal3
  refine goal3 _ v8 v9 _ _ hv8 hv9 fun v10 hv10=>?_
  clear goal3
  simp only [go_sem,List.length_map]
  have goal4:=gen_loop4 p hs' hf B T
  simp only [gEnv,gObjs,go_sem,z3,zF,Int.natCast_zero] at goal4
  refine goal4 _ v8 v9 v10 _ _ hv8 hv10 hv9 fun v9 hv9=>?_
  clear goal4
  have hr8:=hv8.row
  have hr9:=hv9.row
  have hr10:=hv10.row
  have hr:=fun H=>WCall_of (row3 (eqE p).head (plainC p (orderS p).1.length) (tailP p) (by omega) (by omega) (by omega) H)
  change ∀ H K,WCall prg 167 _ H K = K (.d (insV (fullP p))) H at hr
  simp only [insV] at hr hr8 hr9 hr10
  simp only [go_sem,hr8,hr9,hr10,hr,List.length_map]
  refine WG_intro (fun t2=>?_) fun t2=>?_
  · have hb:600 < (fullP p).length:=by have:=of_decide_eq_true t2;omega
    have e1:genF p = (4,0,3):=by unfold genF;rw [if_neg (by simp [h0]),if_pos hb]
    have e2:codeP p = []:=by unfold codeP;rw [if_pos (by rw [e1];decide)]
    have e3:frameP p = frame0:=by unfold frameP;rw [if_pos (by rw [e1];decide)]
    simp only [go_sem,t2]
    rw [e1,e2,e3]
    rfl
  · have hb:¬ 600 < (fullP p).length:=by have:=of_decide_eq_false t2;omega
    have e1:genF p = (0,0,0):=by unfold genF;rw [if_neg (by simp [h0]),if_neg hb]
    have e2:codeP p = fullP p:=by unfold codeP;rw [if_neg (by simp [e1])]
    have e3:frameP p = ⟨(slotsP p).length,(cellsS p).length,(cellsS p).length,p.ins.length,p.outs.length⟩:=by unfold frameP;rw [if_neg (by simp [e1])]
    simp only [go_sem,t2,List.length_map,encM_len]
    rw [e1,e2,e3]
    rfl
end Am
namespace Am
open Go C
set_option maxRecDepth 20000
def formI (op:Int):Int:=if op = 1 then 4 else if op = 10 ∨ op = 11 then 2 else if 1 < op ∧ op < 10 then 1 else 0
theorem form2_c (op:Int) (H:St):CallsA prg 200 [.d (.int .i64 op)] H (.d (.int .i64 (formI op))) H:=by
  refine calls_of2 rfl f200 ?_
  obtain ⟨B,T,lw⟩:=H
  simp only [go_sem,c200]
  repeat' (refine WG_intro ?_ ?_ <;> intro h <;> (try simp only [go_sem,h]))
  all_goals simp_all [formI]
  all_goals first | omega | (split <;> omega) | skip
def mostI (op:Int):Int:=if op = 8 then 2 else if op = 9 then 16 else if op = 10 ∨ op = 11 then 65535 else 255
theorem most_c (op:Int) (H:St):CallsA prg 201 [.d (.int .i64 op)] H (.d (.int .i32 (mostI op))) H:=by
  refine calls_of2 rfl f201 ?_
  obtain ⟨B,T,lw⟩:=H
  simp only [go_sem,c201]
  repeat' (refine WG_intro ?_ ?_ <;> intro h <;> (try simp only [go_sem,h]))
  all_goals simp_all [mostI]
def rightI (i:Ins):Int:=
  if formI i.op = 0 then 9 else if formI i.op = 4 then 0 else if (i.op = 8 ∨ i.op = 9) ∧ (i.n < 1 ∨ mostI i.op < i.n) then 9 else if i.n < 0 ∨ mostI i.op < i.n then 10 else 0
def insA (i:Ins):HV:=.agg (dcells (encIns i))
theorem rightI_c (i:Ins) (H:St):CallsA prg 151 [insA i] H (.d (.int .i64 (rightI i))) H:=by
  have h1:=fun H=>WCall_of (form2_c i.op H)
  have h2:=fun H=>WCall_of (most_c i.op H)
  unfold insA encIns
  simp only [dcells_cons,dcells_nil]
  refine calls_of2 rfl f151 ?_
  obtain ⟨B,T,lw⟩:=H
  simp only [go_sem,c151,h1]
  repeat' (refine WG_intro ?_ ?_ <;> intro h <;> (try simp only [go_sem,h,h1,h2]))
  all_goals clear h1 h2
  all_goals simp_all [rightI]
  all_goals first | omega | (split <;> first | omega | rfl) | skip
def effectI (op:Int) (f:Frame):Int × Int × Int:=
  if op = 1 then (0,1,-1) else if op = 2 then (0,1,f.slots) else if op = 3 then (1,0,f.slots) else if op = 4 then (0,1,f.old) else if op = 5 then (1,0,f.new)
  else if op = 6 then (0,1,f.ins) else if op = 7 then (1,0,f.outs) else if op = 8 then (1,1,-1) else if op = 9 then (2,1,-1) else if op = 11 then (1,0,-1) else (0,0,-1)
def frameA (f:Frame):HV:=.agg (dcells (encFrame f))
theorem effect_c (op:Int) (f:Frame) (H:St):CallsA prg 152 [.d (.int .i64 op),frameA f] H (faultV (effectI op f)) H:=by
  unfold frameA encFrame faultV
  simp only [dcells_cons,dcells_nil]
  refine calls_of2 rfl f152 ?_
  obtain ⟨B,T,lw⟩:=H
  simp only [go_sem,c152]
  repeat' (refine WG_intro ?_ ?_ <;> intro h <;> (try simp only [go_sem,h]))
  all_goals simp_all [effectI]
def withinI (n most:Int):Bool:=decide (0 ≤ n) && decide (n ≤ most)
theorem within_c (n m:Int) (H:St):CallsA prg 150 [.d (.int .i64 n),.d (.int .i64 m)] H (.d (.bool (withinI n m))) H:=by
  refine calls_of2 rfl f150 ?_
  obtain ⟨B,T,lw⟩:=H
  simp only [go_sem,c150]
  repeat' (refine WG_intro ?_ ?_ <;> intro h <;> (try simp only [go_sem,h]))
  all_goals simp_all [withinI]
  all_goals first | omega | skip
def frameI (f:Frame):Int:=if withinI f.slots 24 && (withinI f.old 16 && (withinI f.new 16 && (withinI f.ins 8 && withinI f.outs 8))) then 0 else 1
theorem frame_c (f:Frame) (H:St):CallsA prg 79 [frameA f] H (.d (.int .i64 (frameI f))) H:=by
  have h1:=fun a b H=>WCall_of (within_c a b H)
  unfold frameA encFrame
  simp only [dcells_cons,dcells_nil]
  refine calls_of2 rfl f79 ?_
  obtain ⟨B,T,lw⟩:=H
  simp only [go_sem,c79,h1]
  repeat' (refine WG_intro ?_ ?_ <;> intro h <;> (try simp only [go_sem,h,h1]))
  all_goals simp_all [frameI]
end Am
namespace Am
open Go C
set_option maxRecDepth 20000
structure Place where
  met:Bool
  depth:Int
  fuel:Int
deriving DecidableEq
def encPl (p:Place):List D:=[.bool p.met,.int .i64 p.depth,.int .i64 p.fuel]
def place0:Place:=⟨false,0,0⟩
def plV (ps:List Place):List HV:=(ps.map fun p=>dcells (encPl p)).flatten
def plO (ps:List Place):Obj:=.cells (plV ps)
theorem plV_len (ps:List Place):(plV ps).length = 3 * ps.length:=by
  induction ps with
  | nil=>rfl
  | cons p ps ih=>simp only [plV,List.map_cons,List.flatten_cons,List.length_append,List.length_cons] at ih ⊢;rw [ih];simp [encPl,dcells];omega
theorem plV_cut (ps:List Place) (k:Nat) (p:Place) (h:ps[k]? = some p):plV ps = plV (ps.take k) ++ (dcells (encPl p) ++ plV (ps.drop (k + 1))):=by
  have h1:ps = ps.take k ++ p :: ps.drop (k + 1):=by
    rw [← drop_at h,List.take_append_drop]
  conv=>lhs;rw [h1]
  simp [plV]
theorem plV_take_len (ps:List Place) (k:Nat) (h:k < ps.length):(plV (ps.take k)).length = 3 * k:=by
  rw [plV_len,List.length_take];omega
theorem read_pl {ps:List Place} {k:Nat} {p:Place} (h:ps[k]? = some p):(k * 3 + 3 ≤ (plV ps).length) = True ∧ List.take 3 (List.drop (k * 3) (plV ps)) = [.d (.bool p.met),.d (.int .i64 p.depth),.d (.int .i64 p.fuel)]:=by
  have hk:=lt_of_some h
  have h1:=plV_take_len ps k hk
  have h2:=plV_len ps
  refine ⟨eq_true (by omega),?_⟩
  rw [plV_cut ps k p h,show k * 3 = (plV (ps.take k)).length by omega,List.drop_left]
  rfl
theorem splice_any {ps:List Place} {k:Nat} {p q:Place} (h:ps[k]? = some p) (j:Nat) (vs:List HV) (hv:splice (dcells (encPl p)) j vs = dcells (encPl q)) (hj:j + vs.length ≤ 3):splice (plV ps) (k * 3 + j) vs = plV (ps.set k q):=by
  have hk:=lt_of_some h
  have h1:=plV_take_len ps k hk
  have h3:(ps.set k q)[k]? = some q:=by simp [hk]
  have e1:(ps.set k q).take k = ps.take k:=by rw [List.take_set_of_le (Nat.le_refl k)]
  have e2:(ps.set k q).drop (k + 1) = ps.drop (k + 1):=by rw [List.drop_set_of_lt (by omega)]
  rw [plV_cut ps k p h,plV_cut (ps.set k q) k q h3,e1,e2,← hv]
  have h4:(dcells (encPl p)).length = 3:=rfl
  unfold splice
  rw [show k * 3 + j = (plV (ps.take k)).length + j by omega,List.take_append,List.drop_append]
  rw [List.take_of_length_le (by omega),List.drop_of_length_le (by omega:(plV (ps.take k)).length ≤ (plV (ps.take k)).length + j + vs.length)]
  rw [show (plV (ps.take k)).length + j - (plV (ps.take k)).length = j by omega,show (plV (ps.take k)).length + j + vs.length - (plV (ps.take k)).length = j + vs.length by omega]
  rw [List.take_append_of_le_length (by omega),List.drop_append_of_le_length (by omega)]
  simp
theorem splice_pl {ps:List Place} {k:Nat} {p:Place} (h:ps[k]? = some p) (m:Bool) (d f:Int):splice (plV ps) (k * 3) [.d (.bool m),.d (.int .i64 d),.d (.int .i64 f)] = plV (ps.set k ⟨m,d,f⟩):=
  splice_any h 0 _ rfl (by simp)
theorem splice_fuel {ps:List Place} {k:Nat} {p:Place} (h:ps[k]? = some p) (f:Int):splice (plV ps) (k * 3 + 2) [.d (.int .i64 f)] = plV (ps.set k ⟨p.met,p.depth,f⟩):=
  splice_any h 2 _ rfl (by simp)
theorem splice_met {ps:List Place} {k:Nat} {p:Place} (h:ps[k]? = some p) (m:Bool):splice (plV ps) (k * 3) [.d (.bool m)] = plV (ps.set k ⟨m,p.depth,p.fuel⟩):=
  splice_any h 0 _ rfl (by simp)
theorem place_eq (p:Place):cellsEq [.b,.i,.i] [.bool p.met,.int .i64 p.depth,.int .i64 p.fuel] [.bool false,.int .i64 0,.int .i64 0] = some (decide (p = place0)):=by
  obtain ⟨m,d,f⟩:=p
  simp only [cellsEq,scalarEq,if_true,place0,Place.mk.injEq,Option.some.injEq,Bool.and_true]
  cases m <;> by_cases h1:d = 0 <;> by_cases h2:f = 0 <;> simp [h1,h2]
def maxI (x y:Int):Int:=if y > x then y else x
structure JS where
  ps:List Place
  dep:Int
  fuel:Int
def wO (op n:Nat) (s:JS):Obj:=.cells [.row op 0 n 3,.d (.int .i64 s.dep),.d (.int .i64 s.fuel)]
def comeS (ps:List Place) (to:Nat) (d f:Int):List Place × Bool:=
  let p:=ps[to]?.getD place0
  if p = place0 then (ps.set to ⟨true,d,f⟩,true)
  else if p.depth ≠ d then (ps,false)
  else (ps.set to ⟨p.met,p.depth,maxI p.fuel f⟩,true)
theorem set_same {O:List Obj} {o:Nat} {x:Obj} (h:O[o]? = some x):O.set o x = O:=by
  apply List.ext_getElem?
  intro i
  by_cases hi:o = i
  · subst hi;rw [h];simp [lt_of_some h]
  · rw [List.getElem?_set_ne hi]
theorem come_c (op ow n:Nat) (s:JS) (hn:s.ps.length = n) (to:Nat) (ht:to < n) (d f:Int) (O:List Obj) (T:List Nat) (lw:Option Nat) (h1:O[op]? = some (plO s.ps)) (h2:O[ow]? = some (wO op n s)) :
    CallsA prg 153 [.ref ow 0,.d (.int .i64 to),.d (.int .i64 d),.d (.int .i64 f)] ⟨O,T,lw⟩ (.d (.bool (comeS s.ps to d f).2)) ⟨O.set op (plO (comeS s.ps to d f).1),T,lw⟩:=by
  subst hn
  obtain ⟨p,hp⟩:=at_of_lt ht
  have hl1:=lt_of_some h1
  have hl2:=lt_of_some h2
  have g1:∀ X:List Obj,(O ++ X)[op]? = some (plO s.ps):=fun X=>by rw [List.getElem?_append_left hl1];exact h1
  have g2:∀ X:List Obj,(O ++ X)[ow]? = some (wO op s.ps.length s):=fun X=>by rw [List.getElem?_append_left hl2];exact h2
  obtain ⟨hr1,hr2⟩:=read_pl hp
  have d1:((to:Int) < (s.ps.length:Int)) = True:=eq_true (by omega)
  have hsp:=splice_pl hp
  have hsf:=splice_fuel hp
  have hg:s.ps[to]?.getD place0 = p:=by rw [hp];rfl
  simp only [go_sem,Nat.reduceAdd,Nat.add_assoc] at hsp hsf
  have htk:∀ (X:List Obj) (y:Obj),List.take O.length ((O ++ X).set op y) = O.set op y:=fun X y=>by
    rw [List.set_append_left _ _ hl1,List.take_append_of_le_length (by simp),List.take_of_length_le (by simp)]
  have hss:=set_same h1
  have heq:=place_eq p
  unfold wO at g2 h2
  unfold plO at g1 h1
  refine calls_of2 rfl f153 ?_
  simp only [go_sem,c153,g2,h2,h1,d1,hr1,hr2,heq]
  refine WG_intro (fun t=>?_) fun t=>?_
  · have ht:p = place0:=of_decide_eq_true t
    simp only [go_sem,t,g2,h2,h1,d1,hr1,hr2,g1,hsp,htk]
    unfold comeS
    simp only [hg,if_pos ht]
    rfl
  · have ht:p ≠ place0:=of_decide_eq_false t
    simp only [go_sem,t]
    refine WG_intro (fun t2=>?_) fun t2=>?_
    · have ht2:p.depth ≠ d:=by simpa using t2
      simp only [go_sem,t2]
      unfold comeS
      simp only [hg,if_neg ht,if_pos ht2]
      rw [hss]
    · have ht2:p.depth = d:=by simpa using t2
      simp only [go_sem,t2,g2,h2,h1,d1,hr1,hr2,g1,hsf,htk,Nat.add_assoc]
      unfold comeS
      simp only [hg,if_neg ht,ht2,ne_eq,not_true_eq_false,if_false]
      rw [← ht2]
      rfl
end Am
namespace Am
open Go C
set_option maxRecDepth 20000
theorem max_fold (x y:Int) [inst:Decidable (y > x)]:@ite Int (y > x) inst y x = maxI x y:=by
  unfold maxI
  by_cases h:y > x
  · rw [if_pos h,if_pos h]
  · rw [if_neg h,if_neg h]
theorem comeS_len (ps:List Place) (to:Nat) (d f:Int):(comeS ps to d f).1.length = ps.length:=by
  unfold comeS
  dsimp only
  split
  · simp
  · split <;> simp
def w64 (n:Int):Int:=IntKind.i64.wrap n
def oneD (i:Ins) (f:Frame) (p:Place):Int:=w64 (w64 (p.depth - (effectI i.op f).1) + (effectI i.op f).2.1)
def oneQ (i:Ins) (a:Nat) (d:Int) (p:Place) (ps:List Place):List Place × Bool:=if i.op = 10 then (ps,true) else comeS ps (a + 1) d (w64 (p.fuel + 1))
def oneR (i:Ins) (a:Nat) (d:Int) (p:Place) (ps:List Place):List Place × Bool:=if i.op = 10 ∨ i.op = 11 then comeS ps (a + 1 + i.n.toNat) d (w64 (p.fuel + 1)) else (ps,true)
def oneS (i:Ins) (a:Nat) (f:Frame) (s:JS):Int × JS:=
  if rightI i ≠ 0 then (rightI i,s) else
  let x:=effectI i.op f
  let p:=s.ps[a]?.getD place0
  let d:=oneD i f p
  if 0 ≤ x.2.2 ∧ x.2.2 ≤ w64 i.n then (10,s)
  else if p.met = false then (13,s)
  else if p.depth < x.1 ∨ 16 < d then (12,s)
  else if (i.op = 10 ∨ i.op = 11) ∧ (s.ps.length:Int) ≤ a + 1 + i.n then (11,⟨s.ps,maxI s.dep d,s.fuel⟩)
  else
    let q:=oneQ i a d p s.ps
    if q.2 = false then (12,⟨q.1,maxI s.dep d,s.fuel⟩)
    else
      let r:=oneR i a d p q.1
      if r.2 = false then (12,⟨r.1,maxI s.dep d,s.fuel⟩) else (0,⟨r.1,maxI s.dep d,s.fuel⟩)
theorem right_jump {i:Ins} (h:rightI i = 0) (hj:i.op = 10 ∨ i.op = 11):0 ≤ i.n ∧ i.n ≤ 65535:=by
  have hf:formI i.op = 2:=by unfold formI;rcases hj with h | h <;> simp [h]
  have hm:mostI i.op = 65535:=by unfold mostI;rcases hj with h | h <;> simp [h]
  unfold rightI at h
  rw [hf,hm] at h
  simp only [show ¬ ((2:Int) = 0) by decide,show ¬ ((2:Int) = 4) by decide,if_false] at h
  split at h
  · cases h
  · split at h
    · cases h
    · rename_i h2
      omega
set_option maxHeartbeats 4000000 in
theorem judge_one (i:Ins) (a:Nat) (f:Frame) (op ow n:Nat) (hne:op ≠ ow) (s:JS) (hn:s.ps.length = n) (hnl:n ≤ 1000) (ha:a + 1 < n) (O:List Obj) (T:List Nat) (lw:Option Nat) (h1:O[op]? = some (plO s.ps)) (h2:O[ow]? = some (wO op n s)) :
    CallsA prg 80 [.ref ow 0,insA i,.d (.int .i64 a),frameA f] ⟨O,T,lw⟩ (.d (.int .i64 (oneS i a f s).1)) ⟨(O.set op (plO (oneS i a f s).2.ps)).set ow (wO op n (oneS i a f s).2),T,lw⟩:=by
  have hr:=fun H=>WCall_of (rightI_c i H)
  have he:=fun H=>WCall_of (effect_c i.op f H)
  subst hn
  obtain ⟨p,hp⟩:=at_of_lt (l:=s.ps) (i:=a) (by omega)
  have hg:s.ps[a]?.getD place0 = p:=by rw [hp];rfl
  have hl1:=lt_of_some h1
  have hl2:=lt_of_some h2
  have g1:∀ X:List Obj,(O ++ X)[op]? = some (plO s.ps):=fun X=>by rw [List.getElem?_append_left hl1];exact h1
  have g2:∀ X:List Obj,(O ++ X)[ow]? = some (wO op s.ps.length s):=fun X=>by rw [List.getElem?_append_left hl2];exact h2
  obtain ⟨hr1,hr2⟩:=read_pl hp
  have d1:((a:Int) < (s.ps.length:Int)) = True:=eq_true (by omega)
  have same:(O.set op (plO s.ps)).set ow (wO op s.ps.length s) = O:=by rw [set_same h1,set_same h2]
  unfold insA encIns at hr ⊢
  unfold frameA encFrame faultV at he
  unfold frameA encFrame
  simp only [dcells_cons,dcells_nil] at hr he ⊢
  simp only [wO] at g2
  simp only [plO] at g1
  refine calls_of2 rfl f80 ?_
  simp only [go_sem,c80,hr]
  refine WG_intro (fun t=>?_) fun t=>?_
  · have ht:rightI i ≠ 0:=by simpa using t
    have hs:oneS i a f s = (rightI i,s):=by unfold oneS;rw [if_pos ht]
    simp only [go_sem,t,hs,same]
  have hri:rightI i = 0:=by simpa using t
  have big:oneS i a f s = (let x:=effectI i.op f
      let d:=oneD i f p
      if 0 ≤ x.2.2 ∧ x.2.2 ≤ w64 i.n then (10,s)
      else if p.met = false then (13,s)
      else if p.depth < x.1 ∨ 16 < d then (12,s)
      else if (i.op = 10 ∨ i.op = 11) ∧ (s.ps.length:Int) ≤ a + 1 + i.n then (11,⟨s.ps,maxI s.dep d,s.fuel⟩)
      else
        let q:=oneQ i a d p s.ps
        if q.2 = false then (12,⟨q.1,maxI s.dep d,s.fuel⟩)
        else
          let r:=oneR i a d p q.1
          if r.2 = false then (12,⟨r.1,maxI s.dep d,s.fuel⟩) else (0,⟨r.1,maxI s.dep d,s.fuel⟩)):=by
    unfold oneS
    rw [if_neg (by simp [hri]),hg]
  dsimp only at big
  by_cases hc1:0 ≤ (effectI i.op f).2.2 ∧ (effectI i.op f).2.2 ≤ w64 i.n
  · rw [if_pos hc1] at big
    have b1:decide ((effectI i.op f).2.2 ≥ 0) = true:=decide_eq_true hc1.1
    have b2:decide (IntKind.i64.wrap i.n ≥ (effectI i.op f).2.2) = true:=decide_eq_true hc1.2
    simp only [go_sem,t,he,g1,g2,d1,hr1,hr2,b1,b2,big,same]
  rw [if_neg hc1] at big
  have hc1':(decide ((effectI i.op f).2.2 ≥ 0) = false ∧ decide ((effectI i.op f).2.2 ≥ 0) = false) ∨ (decide ((effectI i.op f).2.2 ≥ 0) = true ∧ decide (IntKind.i64.wrap i.n ≥ (effectI i.op f).2.2) = false):=by
    by_cases h:0 ≤ (effectI i.op f).2.2
    · exact .inr ⟨decide_eq_true h,decide_eq_false fun h2=>hc1 ⟨h,h2⟩⟩
    · exact .inl ⟨decide_eq_false h,decide_eq_false h⟩
  by_cases hc2:p.met = false
  · rw [if_pos hc2] at big
    have b3:(!p.met) = true:=by rw [hc2];rfl
    rcases hc1' with ⟨b1,b2⟩ | ⟨b1,b2⟩ <;> simp only [go_sem,t,he,g1,g2,d1,hr1,hr2,b1,b2,b3,big,same]
  rw [if_neg hc2] at big
  have b3:(!p.met) = false:=by simpa using hc2
  by_cases hc3:p.depth < (effectI i.op f).1 ∨ 16 < oneD i f p
  · rw [if_pos hc3] at big
    have hc3':decide (p.depth < (effectI i.op f).1) = true ∨ (decide (p.depth < (effectI i.op f).1) = false ∧ decide (IntKind.i64.wrap (IntKind.i64.wrap (p.depth - (effectI i.op f).1) + (effectI i.op f).2.1) > 16) = true):=by
      by_cases h:p.depth < (effectI i.op f).1
      · exact .inl (decide_eq_true h)
      · exact .inr ⟨decide_eq_false h,decide_eq_true (by rcases hc3 with h2 | h2;exact absurd h2 h;exact h2)⟩
    rcases hc1' with ⟨b1,b2⟩ | ⟨b1,b2⟩ <;> rcases hc3' with b4 | ⟨b4,b5⟩
    · simp only [go_sem,t,he,g1,g2,d1,hr1,hr2,b1,b2,b3,b4,big,same]
    · simp only [go_sem,t,he,g1,g2,d1,hr1,hr2,b1,b2,b3,b4,b5,big,same]
    · simp only [go_sem,t,he,g1,g2,d1,hr1,hr2,b1,b2,b3,b4,big,same]
    · simp only [go_sem,t,he,g1,g2,d1,hr1,hr2,b1,b2,b3,b4,b5,big,same]
  rw [if_neg hc3] at big
  have b4:decide (p.depth < (effectI i.op f).1) = false:=decide_eq_false fun h=>hc3 (.inl h)
  have b5:decide (IntKind.i64.wrap (IntKind.i64.wrap (p.depth - (effectI i.op f).1) + (effectI i.op f).2.1) > 16) = false:=decide_eq_false fun h=>hc3 (.inr h)
  have wa:IntKind.i64.wrap ((a:Int) + 1) = ((a + 1:Nat):Int):=by rw [wrap64 (by omega) (by omega)];omega
  have hs1:∀ (X:List Obj) (y:Obj),(O ++ X).set ow y = O.set ow y ++ X:=fun X y=>List.set_append_left _ _ hl2
  have hlo:∀ y,op < (O.set ow y).length:=fun y=>by simpa using hl1
  have g4:∀ (X:List Obj) (y:Obj),(O.set ow y ++ X)[ow]? = some y:=fun X y=>set_at_app hl2
  have g3:∀ (X:List Obj) (y:Obj),(O.set ow y ++ X)[op]? = some (.cells (plV s.ps)):=fun X y=>by
    rw [List.getElem?_append_left (hlo y),List.getElem?_set_ne (Ne.symm hne)];exact h1
  have hs2:∀ (X:List Obj) (y z:Obj),(O.set ow y ++ X).set op z = (O.set ow y).set op z ++ X:=fun X y z=>List.set_append_left _ _ (hlo y)
  have hcomm:∀ y z:Obj,(O.set ow y).set op z = (O.set op z).set ow y:=fun y z=>List.set_comm _ _ (Ne.symm hne)
  have hi:∀ (k:Nat) (X:List Obj) (y z:Obj),((O.set ow y).set op z ++ X)[O.length + k]? = X[k]?:=fun k X y z=>by
    rw [List.getElem?_append_right (by simp)];simp
  have hi0:∀ (X:List Obj) (y z:Obj),((O.set ow y).set op z ++ X)[O.length]? = X[0]?:=fun X y z=>hi 0 X y z
  have hit:∀ (X:List Obj) (y z:Obj),List.take O.length ((O.set ow y).set op z ++ X) = (O.set ow y).set op z:=fun X y z=>by
    rw [List.take_append_of_le_length (by simp),List.take_of_length_le (by simp)]
  have g5:∀ (X:List Obj) (y z:Obj),((O.set ow y).set op z ++ X)[ow]? = some y:=fun X y z=>by
    rw [List.getElem?_append_left (by simpa using hl2),List.getElem?_set_ne hne];simp [hl2]
  have g6:∀ (X:List Obj) (y z:Obj),((O.set ow y).set op z ++ X)[op]? = some z:=fun X y z=>by
    rw [List.getElem?_append_left (by simpa using hl1)];simp [hl1]
  have hs3:∀ (X:List Obj) (y z u:Obj),((O.set ow y).set op z ++ X).set op u = (O.set ow y).set op u ++ X:=fun X y z u=>by
    rw [List.set_append_left _ _ (by simpa using hl1),List.set_set]
  have hcm:=fun (to:Nat) (ht:to < s.ps.length) (X:List Obj) lw=>WCall_of (come_c op ow s.ps.length ⟨s.ps,maxI s.dep (oneD i f p),s.fuel⟩ rfl to ht (oneD i f p) (w64 (p.fuel + 1)) (O.set ow (wO op s.ps.length ⟨s.ps,maxI s.dep (oneD i f p),s.fuel⟩) ++ X) T lw (g3 _ _) (g4 _ _))
  have hcm2:=fun (ps':List Place) (hps:ps'.length = s.ps.length) (to:Nat) (ht:to < s.ps.length) (X:List Obj) lw=>WCall_of (come_c op ow s.ps.length ⟨ps',maxI s.dep (oneD i f p),s.fuel⟩ hps to ht (oneD i f p) (w64 (p.fuel + 1)) ((O.set ow (wO op s.ps.length ⟨ps',maxI s.dep (oneD i f p),s.fuel⟩)).set op (plO ps') ++ X) T lw (g6 _ _ _) (g5 _ _ _))
  simp only [wO,oneD,w64,hs2,hs3] at hcm hcm2
  have c1:=hcm (a + 1) ha
  by_cases hj:i.op = 10 ∨ i.op = 11
  · obtain ⟨n1,n2⟩:=right_jump hri hj
    have wn:IntKind.i64.wrap i.n = i.n:=wrap64 (by omega) (by omega)
    have wto:IntKind.i64.wrap (((a + 1:Nat):Int) + i.n) = ((a + 1 + i.n.toNat:Nat):Int):=by rw [wrap64 (by omega) (by omega)];omega
    rw [wn] at hc1'
    have b6:(i.op == 10) = true ∨ ((i.op == 10) = false ∧ (i.op == 11) = true):=by
      rcases hj with h | h
      · exact .inl (by simp [h])
      · exact .inr (by simp [h])
    by_cases hc4:(s.ps.length:Int) ≤ a + 1 + i.n
    · rw [if_pos ⟨hj,hc4⟩] at big
      have b7:decide (((a + 1 + i.n.toNat:Nat):Int) ≥ (s.ps.length:Int)) = true:=decide_eq_true (by omega)
      rcases hc1' with ⟨b1,b2⟩ | ⟨b1,b2⟩ <;> rcases b6 with b6 | ⟨b6,b6'⟩
      · simp only [go_sem,t,he,g1,g2,d1,hr1,hr2,b1,b2,b3,b4,b5,b6,wa,wn,hs1,wto,g4,b7,big,max_fold]
        rw [set_same h1];rfl
      · simp only [go_sem,t,he,g1,g2,d1,hr1,hr2,b1,b2,b3,b4,b5,b6,b6',wa,wn,hs1,wto,g4,b7,big,max_fold]
        rw [set_same h1];rfl
      · simp only [go_sem,t,he,g1,g2,d1,hr1,hr2,b1,b2,b3,b4,b5,b6,wa,wn,hs1,wto,g4,b7,big,max_fold]
        rw [set_same h1];rfl
      · simp only [go_sem,t,he,g1,g2,d1,hr1,hr2,b1,b2,b3,b4,b5,b6,b6',wa,wn,hs1,wto,g4,b7,big,max_fold]
        rw [set_same h1];rfl
    · rw [if_neg (fun h=>hc4 h.2)] at big
      have b7:decide (((a + 1 + i.n.toNat:Nat):Int) ≥ (s.ps.length:Int)) = false:=decide_eq_false (by omega)
      rcases b6 with b6 | ⟨b6,b6'⟩
      · have hj10:i.op = 10:=by simpa using b6
        have b8:(i.op != 10) = false:=by simp [hj10]
        have hq:oneQ i a (oneD i f p) p s.ps = (s.ps,true):=by unfold oneQ;rw [if_pos hj10]
        have hrr:oneR i a (oneD i f p) p s.ps = comeS s.ps (a + 1 + i.n.toNat) (oneD i f p) (w64 (p.fuel + 1)):=by unfold oneR;rw [if_pos hj]
        rw [hq,if_neg (by simp)] at big
        simp only [hrr] at big
        have c2:=hcm (a + 1 + i.n.toNat) (by omega)
        cases hb:(comeS s.ps (a + 1 + i.n.toNat) (oneD i f p) (w64 (p.fuel + 1))).2 with
        | true=>
          rw [hb,if_neg (by simp)] at big
          simp only [oneD,w64] at hb
          rcases hc1' with ⟨b1,b2⟩ | ⟨b1,b2⟩
          · simp only [go_sem,t,he,g1,g2,d1,hr1,hr2,b1,b2,b3,b4,b5,b6,b8,wa,wn,hs1,wto,g4,b7,max_fold,c2,hb,hi,hi0,hit,big]
            rw [hcomm];rfl
          · simp only [go_sem,t,he,g1,g2,d1,hr1,hr2,b1,b2,b3,b4,b5,b6,b8,wa,wn,hs1,wto,g4,b7,max_fold,c2,hb,hi,hi0,hit,big]
            rw [hcomm];rfl
        | false=>
          rw [hb,if_pos rfl] at big
          simp only [oneD,w64] at hb
          rcases hc1' with ⟨b1,b2⟩ | ⟨b1,b2⟩
          · simp only [go_sem,t,he,g1,g2,d1,hr1,hr2,b1,b2,b3,b4,b5,b6,b8,wa,wn,hs1,wto,g4,b7,max_fold,c2,hb,hi,hi0,hit,big]
            rw [hcomm];rfl
          · simp only [go_sem,t,he,g1,g2,d1,hr1,hr2,b1,b2,b3,b4,b5,b6,b8,wa,wn,hs1,wto,g4,b7,max_fold,c2,hb,hi,hi0,hit,big]
            rw [hcomm];rfl
      · have hj11:i.op = 11:=by simpa using b6'
        have hn10:i.op ≠ 10:=by omega
        have b8:(i.op != 10) = true:=by simp [hj11]
        have hq:oneQ i a (oneD i f p) p s.ps = comeS s.ps (a + 1) (oneD i f p) (w64 (p.fuel + 1)):=by unfold oneQ;rw [if_neg hn10]
        simp only [hq] at big
        have hql:=comeS_len s.ps (a + 1) (oneD i f p) (w64 (p.fuel + 1))
        cases hb:(comeS s.ps (a + 1) (oneD i f p) (w64 (p.fuel + 1))).2 with
        | false=>
          rw [hb,if_pos rfl] at big
          simp only [oneD,w64] at hb
          rcases hc1' with ⟨b1,b2⟩ | ⟨b1,b2⟩
          · simp only [go_sem,t,he,g1,g2,d1,hr1,hr2,b1,b2,b3,b4,b5,b6,b6',b8,wa,hs1,g4,max_fold,hi,hi0,hit,wn,wto,b7,c1,hb,big]
            rw [hcomm];rfl
          · simp only [go_sem,t,he,g1,g2,d1,hr1,hr2,b1,b2,b3,b4,b5,b6,b6',b8,wa,hs1,g4,max_fold,hi,hi0,hit,wn,wto,b7,c1,hb,big]
            rw [hcomm];rfl
        | true=>
          rw [hb,if_neg (by simp)] at big
          have hrr:oneR i a (oneD i f p) p (comeS s.ps (a + 1) (oneD i f p) (w64 (p.fuel + 1))).1 = comeS (comeS s.ps (a + 1) (oneD i f p) (w64 (p.fuel + 1))).1 (a + 1 + i.n.toNat) (oneD i f p) (w64 (p.fuel + 1)):=by unfold oneR;rw [if_pos hj]
          simp only [hrr] at big
          have c2:=hcm2 _ hql (a + 1 + i.n.toNat) (by omega)
          simp only [oneD,w64] at c2
          cases hb2:(comeS (comeS s.ps (a + 1) (oneD i f p) (w64 (p.fuel + 1))).1 (a + 1 + i.n.toNat) (oneD i f p) (w64 (p.fuel + 1))).2 with
          | false=>
            rw [hb2,if_pos rfl] at big
            simp only [oneD,w64] at hb hb2
            rcases hc1' with ⟨b1,b2⟩ | ⟨b1,b2⟩
            · simp only [go_sem,t,he,g1,g2,d1,hr1,hr2,b1,b2,b3,b4,b5,b6,b6',b8,wa,hs1,g4,max_fold,hi,hi0,hit,wn,wto,b7,c1,hb,c2,hb2,big]
              rw [hcomm];rfl
            · simp only [go_sem,t,he,g1,g2,d1,hr1,hr2,b1,b2,b3,b4,b5,b6,b6',b8,wa,hs1,g4,max_fold,hi,hi0,hit,wn,wto,b7,c1,hb,c2,hb2,big]
              rw [hcomm];rfl
          | true=>
            rw [hb2,if_neg (by simp)] at big
            simp only [oneD,w64] at hb hb2
            rcases hc1' with ⟨b1,b2⟩ | ⟨b1,b2⟩
            · simp only [go_sem,t,he,g1,g2,d1,hr1,hr2,b1,b2,b3,b4,b5,b6,b6',b8,wa,hs1,g4,max_fold,hi,hi0,hit,wn,wto,b7,c1,hb,c2,hb2,big]
              rw [hcomm];rfl
            · simp only [go_sem,t,he,g1,g2,d1,hr1,hr2,b1,b2,b3,b4,b5,b6,b6',b8,wa,hs1,g4,max_fold,hi,hi0,hit,wn,wto,b7,c1,hb,c2,hb2,big]
              rw [hcomm];rfl
  · have hn10:i.op ≠ 10:=fun h=>hj (.inl h)
    have b6:(i.op == 10) = false:=by simp [hn10]
    have hn11:i.op ≠ 11:=fun h=>hj (.inr h)
    have b6':(i.op == 11) = false:=by simp [hn11]
    have b8:(i.op != 10) = true:=by simp [hn10]
    have hq:oneQ i a (oneD i f p) p s.ps = comeS s.ps (a + 1) (oneD i f p) (w64 (p.fuel + 1)):=by unfold oneQ;rw [if_neg hn10]
    have hrr:∀ ps,oneR i a (oneD i f p) p ps = (ps,true):=fun ps=>by unfold oneR;rw [if_neg hj]
    rw [if_neg (fun h=>hj h.1)] at big
    simp only [hq,hrr] at big
    cases hb:(comeS s.ps (a + 1) (oneD i f p) (w64 (p.fuel + 1))).2 with
    | false=>
      rw [hb,if_pos rfl] at big
      simp only [oneD,w64] at hb
      rcases hc1' with ⟨b1,b2⟩ | ⟨b1,b2⟩
      · simp only [go_sem,t,he,g1,g2,d1,hr1,hr2,b1,b2,b3,b4,b5,b6,b6',b8,wa,hs1,g4,max_fold,hi,hi0,hit,c1,hb,big]
        rw [hcomm];rfl
      · simp only [go_sem,t,he,g1,g2,d1,hr1,hr2,b1,b2,b3,b4,b5,b6,b6',b8,wa,hs1,g4,max_fold,hi,hi0,hit,c1,hb,big]
        rw [hcomm];rfl
    | true=>
      rw [hb,if_neg (by simp),if_neg (by simp)] at big
      simp only [oneD,w64] at hb
      rcases hc1' with ⟨b1,b2⟩ | ⟨b1,b2⟩
      · simp only [go_sem,t,he,g1,g2,d1,hr1,hr2,b1,b2,b3,b4,b5,b6,b6',b8,wa,hs1,g4,max_fold,hi,hi0,hit,c1,hb,big]
        rw [hcomm];rfl
      · simp only [go_sem,t,he,g1,g2,d1,hr1,hr2,b1,b2,b3,b4,b5,b6,b6',b8,wa,hs1,g4,max_fold,hi,hi0,hit,c1,hb,big]
        rw [hcomm];rfl
end Am
