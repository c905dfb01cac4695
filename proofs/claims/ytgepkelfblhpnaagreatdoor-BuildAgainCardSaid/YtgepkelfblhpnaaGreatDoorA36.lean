/- A part of the proof of BuildAgain: no condition of its own. Whence: AmJdg4, AmIsa1, AmIsa2, AmImg1, AmImg2. -/
import Derived.Test.YtgepkelfblhpnaaGreatDoorA35
set_option linter.all false
namespace Am
open Go C
set_option maxRecDepth 20000
@[go_sem] theorem cells_row (a b c d:Nat):HV.cells (.row a b c d) = [.row a b c d]:=(rfl)
theorem oneS_len (i:Ins) (a:Nat) (f:Frame) (s:JS):(oneS i a f s).2.ps.length = s.ps.length:=by
  have hq:∀ d p ps,(oneQ i a d p ps).1.length = ps.length:=fun d p ps=>by unfold oneQ;split;rfl;exact comeS_len _ _ _ _
  have hr:∀ d p ps,(oneR i a d p ps).1.length = ps.length:=fun d p ps=>by unfold oneR;split;exact comeS_len _ _ _ _;rfl
  unfold oneS
  split
  · rfl
  dsimp only
  split
  · rfl
  split
  · rfl
  split
  · rfl
  split
  · rfl
  split
  · exact hq _ _ _
  split
  · rw [hr,hq]
  · rw [hr,hq]
def goS (f:Frame):List Ins→Nat→JS→Int × Nat × JS
  | [],_,s=>(0,0,s)
  | i :: l,a,s=>if (oneS i a f s).1 ≠ 0 then ((oneS i a f s).1,a,(oneS i a f s).2) else goS f l (a + 1) (oneS i a f s).2
def js0 (n:Nat):JS:=⟨(List.replicate (n + 1) place0).set 0 ⟨true,0,0⟩,0,0⟩
structure Rep where
  dep:Int
  fuel:Int
  e:Int
  at_:Int
def checkS (l:List Ins) (f:Frame):Rep:=
  if frameI f ≠ 0 then ⟨0,0,frameI f,0⟩ else if 600 < l.length then ⟨0,0,3,0⟩ else
  let r:=goS f l 0 (js0 l.length)
  if r.1 ≠ 0 then ⟨0,0,r.1,r.2.1⟩ else
  let e:=r.2.2.ps[l.length]?.getD place0
  if e.depth ≠ 0 then ⟨0,0,12,l.length⟩ else ⟨r.2.2.dep,e.fuel,0,0⟩
def repV (r:Rep):HV:=.tup [.agg [.d (.int .i64 r.dep),.d (.int .i64 r.fuel)],.d (.int .i64 r.e),.d (.int .i64 r.at_)]
theorem plV_rep (n:Nat):(List.replicate n [HV.d (D.bool false),HV.d (D.int .i64 0),HV.d (D.int .i64 0)]).flatten = plV (List.replicate n place0):=by
  unfold plV
  rw [List.map_replicate]
  rfl
def z2:Obj:=.cells [.d (.int .i64 0),.d (.int .i64 0)]
def JcI (l:List Ins) (f:Frame) (B:List Obj) (T:List Nat) (k:Nat) (e:Env) (H:St):Prop:=
  ∃ (i:Nat) (s:JS),i ≤ l.length ∧ k = l.length - i ∧ s.ps.length = l.length + 1 ∧ goS f l 0 (js0 l.length) = goS f (l.drop i) i s ∧
    e = [(0,.d (insV l)),(3,.ref B.length 0),(4,.ref (B.length + 1) 0),(8,.ref (B.length + 3) 0),(35,.d (insV l)),(36,.d (.int .i64 l.length)),(37,.d (.int .i64 i))] ∧
    H = ⟨B ++ [.cells (dcells (encFrame f)),z2,plO s.ps,wO (B.length + 2) (l.length + 1) s],T,none⟩
theorem check_c (l:List Ins) (f:Frame) (H:St) (hl:l.length ≤ 100000000):CallsA prg 35 [.d (insV l),frameA f] H (repV (checkS l f)) H:=by
  have hf:=fun H=>WCall_of (frame_c f H)
  unfold frameA encFrame at hf ⊢
  simp only [dcells_cons,dcells_nil,insV] at hf ⊢
  refine calls_of2 rfl f35 ?_
  obtain ⟨B,T,lw⟩:=H
  simp only [go_sem,c35,hf,List.length_map]
  refine WG_intro (fun t=>?_) fun t=>?_
  · have ht:frameI f ≠ 0:=by simpa using t
    have hs:checkS l f = ⟨0,0,frameI f,0⟩:=by unfold checkS;rw [if_pos ht]
    simp only [go_sem,t,hs,repV]
  have ht:frameI f = 0:=by simpa using t
  simp only [go_sem,t,List.length_map]
  refine WG_intro (fun t2=>?_) fun t2=>?_
  · have ht2:600 < l.length:=by have:=of_decide_eq_true t2;omega
    have hs:checkS l f = ⟨0,0,3,0⟩:=by unfold checkS;rw [if_neg (by simp [ht]),if_pos ht2]
    simp only [go_sem,t2,hs,repV]
  have ht2:¬ 600 < l.length:=by have:=of_decide_eq_false t2;omega
  have w1:IntKind.i64.wrap ((l.length:Int) + 1) = ((l.length + 1:Nat):Int):=by rw [wrap64 (by omega) (by omega)];omega
  have hcs:checkS l f = (let r:=goS f l 0 (js0 l.length)
      if r.1 ≠ 0 then ⟨0,0,r.1,r.2.1⟩ else
      let e:=r.2.2.ps[l.length]?.getD place0
      if e.depth ≠ 0 then ⟨0,0,12,l.length⟩ else ⟨r.2.2.dep,e.fuel,0,0⟩):=by unfold checkS;rw [if_neg (by simp [ht]),if_neg ht2]
  dsimp only at hcs
  have m1:(((l.length + 1:Nat):Int) = 0) = False:=eq_false (by omega)
  have m2:(((l.length + 1:Nat):Int) ≤ (roomN:Int)) = True:=eq_true (by unfold roomN;omega)
  have m3:((0:Int) < ((l.length + 1:Nat):Int)) = True:=eq_true (by omega)
  have m4:(1 ≤ (plV (List.replicate (l.length + 1) place0)).length) = True:=eq_true (by rw [plV_len];simp;omega)
  have m5:HV.d (D.bool true) :: List.drop 1 (plV (List.replicate (l.length + 1) place0)) = plV (js0 l.length).ps:=by
    unfold js0
    rw [List.replicate_succ]
    rfl
  have m6:(((l.length + 1:Nat):Int) ≤ ((l.length + 1:Nat):Int)) = True:=eq_true (Int.le_refl _)
  simp only [go_sem,t2,List.length_map,w1,m1,m2,m3,m4,m6,plV_rep,m5]
  refine loop_I (JcI l f B T) l.length ⟨0,js0 l.length,Nat.zero_le _,rfl,by simp [js0],rfl,rfl,rfl⟩ ?_
  rintro k e H ⟨i,s,hi,rfl,hsl,hgo,rfl,rfl⟩
  have hi0:((i:Int) < (l.length:Int)) = (i < l.length):=by simp
  simp only [go_sem,c35l0,insV,z2,plO,wO,encFrame]
  refine WG_intro (fun h=>?_) fun h=>?_
  · have hlt:i < l.length:=by simpa using h
    obtain ⟨x,hx0⟩:=at_of_lt hlt
    have e2:(l.map encIns)[i]? = some (encIns x):=by simp [hx0]
    have hwi:IntKind.i64.wrap ((i:Int) + 1) = ((i + 1:Nat):Int):=by rw [wrap64 (by omega) (by omega)];omega
    have hone:=fun (X:List Obj) lw=>WCall_of (judge_one x i f (B.length + 2) (B.length + 3) (l.length + 1) (by omega) s hsl (by omega) (by omega)
      (B ++ ([.cells (dcells (encFrame f)),z2,plO s.ps,wO (B.length + 2) (l.length + 1) s] ++ X)) T lw (by simp only [go_sem]) (by simp only [go_sem]))
    unfold insA frameA at hone
    simp only [encIns,encFrame,plO,wO,z2,go_sem] at hone
    rw [drop_at hx0,goS] at hgo
    simp only [go_sem,h,e2,encIns,hone]
    refine WG_intro (fun h2=>?_) fun h2=>?_
    · have h3:(oneS x i f s).1 ≠ 0:=by simpa using h2
      rw [if_pos h3] at hgo
      have hs:checkS l f = ⟨0,0,(oneS x i f s).1,i⟩:=by rw [hcs,hgo,if_pos h3]
      simp only [go_sem,h2,hs,repV]
    · have h3:(oneS x i f s).1 = 0:=by simpa using h2
      rw [if_neg (by simp [h3])] at hgo
      simp only [go_sem,h2,hwi]
      refine ⟨_,by omega,i + 1,(oneS x i f s).2,by omega,rfl,by rw [oneS_len];exact hsl,hgo,rfl,?_⟩
      simp only [encFrame,z2,plO,wO,go_sem]
  · have hlt:i = l.length:=by have:=of_decide_eq_false h;omega
    subst hlt
    rw [List.drop_length,goS] at hgo
    obtain ⟨p,hp⟩:=at_of_lt (l:=s.ps) (i:=l.length) (by omega)
    obtain ⟨hr1,hr2⟩:=read_pl hp
    have hg:s.ps[l.length]?.getD place0 = p:=by rw [hp];rfl
    have m7:((l.length:Int) < ((l.length + 1:Nat):Int)) = True:=eq_true (by omega)
    rw [hgo] at hcs
    simp only [ne_eq,not_true_eq_false,if_false,hg] at hcs
    simp only [go_sem,h,List.length_map,m7,hr1,hr2]
    refine WG_intro (fun h2=>?_) fun h2=>?_
    · have h3:p.depth ≠ 0:=by simpa using h2
      rw [if_pos h3] at hcs
      simp only [go_sem,h2,hcs,repV,List.length_map]
    · have h3:p.depth = 0:=by simpa using h2
      rw [if_neg (by simp [h3])] at hcs
      simp only [go_sem,h2,hcs,repV]
end Am
namespace Am
open Go C
set_option maxRecDepth 20000
def leB (w n:Nat):Str:=(List.range w).map fun i=>UInt8.ofNat (n / 256 ^ i % 256)
theorem leB_rows (w n:Nat):u8rows w n = r8s (leB w n):=by
  unfold u8rows leB r8s
  rw [List.map_map]
  apply List.map_congr_left
  intro i _
  have:n / 256 ^ i % 256 < 256:=Nat.mod_lt _ (by decide)
  simp only [Function.comp,i8,UInt8.toNat_ofNat',Nat.reducePow,Nat.mod_mod]
def putS (b:Str) (w n:Nat):Str × Int:=
  if w < 1 ∨ 8 < w then ([],1) else if w < 8 ∧ n / 256 ^ w ≠ 0 then ([],3) else (b ++ leB w n,0)
theorem r8s_u8 (b:Str):(r8s b).all isU8 = true:=by
  rw [List.all_eq_true]
  intro x hx
  simp only [r8s,List.mem_map] at hx
  obtain ⟨c,_,rfl⟩:=hx
  have:=c.toNat_lt
  simp only [i8,isU8,Bool.and_eq_true,decide_eq_true_eq]
  omega
theorem r8s_len (b:Str):(r8s b).length = b.length:=by simp [r8s]
theorem r8s_app (a b:Str):r8s (a ++ b) = r8s a ++ r8s b:=by simp [r8s]
theorem put_c (v:HV) (b:Str) (hv:shut v = .d (.sl (r8s b))) (hb:b.length ≤ 1000000) (w n:Nat) (hn:n < 18446744073709551616) (H:St) :
    CallsA prg 99 [v,.d (.int .i64 w),.d (.int .u64 n)] H (.tup [.own (r8s (putS b w n).1) .exact,.d (.int .i64 (putS b w n).2)]) H:=by
  refine Ev.succ (Ev.always fun m=>?_)
  have h1:prg.ext 99 = some putX:=rfl
  simp only [callN,h1]
  have h2:putX [v,.d (.int .i64 w),.d (.int .u64 n)] H = some (putR (r8s b) w n):=by
    unfold putX
    simp only [hv]
    rw [if_pos ⟨r8s_u8 b,by rw [r8s_len];exact hb,by omega,by omega⟩]
  rw [h2]
  simp only [Option.map_some,Option.some.injEq,Prod.mk.injEq,and_true]
  unfold putR putS
  by_cases c1:w < 1 ∨ 8 < w
  · rw [if_pos c1,if_pos (by omega)];rfl
  · rw [if_neg c1,if_neg (by omega)]
    by_cases c2:w < 8 ∧ n / 256 ^ w ≠ 0
    · rw [if_pos c2,if_pos (by simp only [Int.toNat_natCast];exact ⟨by omega,c2.2⟩)];rfl
    · rw [if_neg c2,if_neg (by simp only [Int.toNat_natCast];exact fun h=>c2 ⟨by omega,h.2⟩)]
      simp only [Int.toNat_natCast,leB_rows,r8s_app]
def u64 (n:Int):Int:=IntKind.u64.wrap n
def u32 (n:Int):Int:=IntKind.u32.wrap n
def u8 (n:Int):Int:=IntKind.u8.wrap n
theorem u64_range (n:Int):0 ≤ u64 n ∧ u64 n < 18446744073709551616:=by
  show 0 ≤ (if (false && decide (n % 18446744073709551616 ≥ 9223372036854775808)) = true then n % 18446744073709551616 - 18446744073709551616 else n % 18446744073709551616) ∧ (if (false && decide (n % 18446744073709551616 ≥ 9223372036854775808)) = true then n % 18446744073709551616 - 18446744073709551616 else n % 18446744073709551616) < 18446744073709551616
  simp only [Bool.false_and,Bool.false_eq_true,if_false]
  omega
theorem u8_range (n:Int):0 ≤ u8 n ∧ u8 n < 256:=by
  show 0 ≤ (if (false && decide (n % 256 ≥ 128)) = true then n % 256 - 256 else n % 256) ∧ (if (false && decide (n % 256 ≥ 128)) = true then n % 256 - 256 else n % 256) < 256
  simp only [Bool.false_and,Bool.false_eq_true,if_false]
  omega
def byteU (n:Int):UInt8:=UInt8.ofNat (u8 n).toNat
theorem byteU_i8 (n:Int):i8 (byteU n) = .int .u8 (IntKind.u8.wrap n):=by
  have:=u8_range n
  unfold i8 byteU
  rw [UInt8.toNat_ofNat']
  change D.int .u8 (((u8 n).toNat % 2 ^ 8:Nat):Int) = .int .u8 (u8 n)
  congr 1
  omega
theorem plain_c (n:Int) (H:St):CallsA prg 102 [.d (.int .i32 n)] H (.d (.int .u32 (u32 n))) H:=by
  refine calls_of2 rfl f102 ?_
  obtain ⟨B,T,lw⟩:=H
  simp only [go_sem,c102]
  rfl
def bytesS (i:Ins):Str × Int:=if rightI i ≠ 0 then ([],rightI i) else putS [byteU i.op] (formI i.op).toNat (u64 (u32 i.n)).toNat
theorem bytes_c (i:Ins) (H:St):CallsA prg 163 [insA i] H (.tup [.d (.sl (r8s (bytesS i).1)),.d (.int .i64 (bytesS i).2)]) H:=by
  have h1:=fun H=>WCall_of (rightI_c i H)
  have h2:=fun H=>WCall_of (form2_c i.op H)
  have h3:=fun H=>WCall_of (plain_c i.n H)
  have hr:=u64_range (u32 i.n)
  have hfm:((formI i.op).toNat:Int) = formI i.op:=by unfold formI;split <;> (try split) <;> (try split) <;> rfl
  have h4:=fun H=>WCall_of (put_c (.own [[.int .u8 (IntKind.u8.wrap i.op)]] .exact) [byteU i.op] (by simp only [go_sem,r8s,List.map_cons,List.map_nil,byteU_i8]) (by simp) (formI i.op).toNat (u64 (u32 i.n)).toNat (by omega) H)
  rw [hfm,show ((u64 (u32 i.n)).toNat:Int) = u64 (u32 i.n) by omega] at h4
  unfold insA encIns at h1 ⊢
  simp only [dcells_cons,dcells_nil] at h1 ⊢
  refine calls_of2 rfl f163 ?_
  obtain ⟨B,T,lw⟩:=H
  simp only [go_sem,c163,h1]
  refine WG_intro (fun t=>?_) fun t=>?_
  · have ht:rightI i ≠ 0:=by simpa using t
    have hb:bytesS i = ([],rightI i):=by unfold bytesS;rw [if_pos ht]
    simp only [go_sem,t,hb]
    rfl
  · have ht:rightI i = 0:=by simpa using t
    have hb:bytesS i = putS [byteU i.op] (formI i.op).toNat (u64 (u32 i.n)).toNat:=by unfold bytesS;rw [if_neg (by simp [ht])]
    unfold u64 u32 at *
    simp only [go_sem,t,h2,h3,h4]
    rw [hb]
def joinE (a r:Str × Int):Str × Int:=if a.2 ≠ 0 then ([],a.2) else if r.2 ≠ 0 then ([],r.2) else (a.1 ++ r.1,0)
theorem joinE_bad {a:Str × Int} (h:a.2 ≠ 0) (r:Str × Int):joinE a r = ([],a.2):=by unfold joinE;rw [if_pos h]
theorem joinE_bad2 {a r:Str × Int} (h0:a.2 = 0) (h:r.2 ≠ 0):joinE a r = ([],r.2):=by unfold joinE;rw [if_neg (by simp [h0]),if_pos h]
theorem joinE_good {a r:Str × Int} (h0:a.2 = 0) (h:r.2 = 0):joinE a r = (a.1 ++ r.1,0):=by unfold joinE;rw [if_neg (by simp [h0]),if_neg (by simp [h])]
theorem joinE_assoc {a b:Str × Int} (ha:a.2 = 0) (hb:b.2 = 0) (r:Str × Int):joinE a (joinE b r) = joinE (a.1 ++ b.1,0) r:=by
  by_cases hr:r.2 = 0
  · rw [joinE_good hb hr,joinE_good ha rfl,joinE_good rfl hr];simp
  · rw [joinE_bad2 hb hr,joinE_bad2 ha (r:=([],r.2)) hr,joinE_bad2 rfl hr]
def encF:List Ins→Str × Int
  | []=>([],0)
  | i :: l=>joinE (bytesS i) (encF l)
def encS (l:List Ins):Str × Int:=if 600 < l.length then ([],3) else encF l
theorem put_len (b:Str) (w n:Nat):(putS b w n).1.length ≤ b.length + 8:=by
  unfold putS
  split
  · simp
  · split
    · simp
    · simp [leB];omega
theorem bytes_len (i:Ins):(bytesS i).1.length ≤ 9:=by
  unfold bytesS
  split
  · simp
  · have:=put_len [byteU i.op] (formI i.op).toNat (u64 (u32 i.n)).toNat
    simpa using this
theorem joinE_len (a r:Str × Int):(joinE a r).1.length ≤ a.1.length + r.1.length:=by
  unfold joinE
  split
  · simp
  · split <;> simp
theorem encF_len (l:List Ins):(encF l).1.length ≤ 9 * l.length:=by
  induction l with
  | nil=>simp [encF]
  | cons i l ih=>
    have:=bytes_len i
    have:=joinE_len (bytesS i) (encF l)
    rw [encF];simp;omega
theorem encF_id (l:List Ins):joinE ([],0) (encF l) = encF l:=by
  have:∀ l,(encF l).2 ≠ 0→encF l = ([],(encF l).2):=by
    intro l
    cases l with
    | nil=>intro h;simp [encF] at h
    | cons i l=>
      intro h
      rw [encF] at h ⊢
      by_cases h1:(bytesS i).2 = 0
      · by_cases h2:(encF l).2 = 0
        · rw [joinE_good h1 h2] at h;simp at h
        · rw [joinE_bad2 h1 h2]
      · rw [joinE_bad h1]
  by_cases h:(encF l).2 = 0
  · rw [joinE_good rfl h,List.nil_append,← h]
  · rw [joinE_bad2 rfl h];exact (this l h).symm
def EcI (l:List Ins) (B:List Obj) (T:List Nat) (k:Nat) (e:Env) (H:St):Prop:=
  ∃ (i:Nat) (acc:Str),i ≤ l.length ∧ k = l.length - i ∧ acc.length ≤ 9 * i ∧ encF l = joinE (acc,0) (encF (l.drop i)) ∧
    e = [(4,.own (r8s acc) (tipT T 1 (r8s acc))),(12,.d (insV l)),(13,.d (.int .i64 l.length)),(14,.d (.int .i64 i))] ∧ H = ⟨B,tipL T (r8s acc),none⟩
theorem encode_c (l:List Ins) (hl:l.length ≤ 100000000) (H:St):CallsA prg 104 [.d (insV l)] H (.tup [.d (.sl (r8s (encS l).1)),.d (.int .i64 (encS l).2)]) H:=by
  simp only [insV]
  refine calls_of2 rfl f104 ?_
  obtain ⟨B,T,lw⟩:=H
  simp only [go_sem,c104,List.length_map]
  refine WG_intro (fun t=>?_) fun t=>?_
  · have ht:600 < l.length:=by have:=of_decide_eq_true t;omega
    have hs:encS l = ([],3):=by unfold encS;rw [if_pos ht]
    simp only [go_sem,t,hs]
    rfl
  have ht:¬ 600 < l.length:=by have:=of_decide_eq_false t;omega
  have hs:encS l = encF l:=by unfold encS;rw [if_neg ht]
  simp only [go_sem,t,List.length_map,hs]
  refine loop_I (EcI l B T) l.length ⟨0,[],Nat.zero_le _,rfl,by simp,(encF_id l).symm,rfl,rfl⟩ ?_
  rintro k e H ⟨i,acc,hi,rfl,hal,hv,rfl,rfl⟩
  simp only [go_sem,c104l0,insV]
  refine WG_intro (fun h=>?_) fun h=>?_
  · have hlt:i < l.length:=by simpa using h
    obtain ⟨x,hx0⟩:=at_of_lt hlt
    have e2:(l.map encIns)[i]? = some (encIns x):=by simp [hx0]
    have hwi:IntKind.i64.wrap ((i:Int) + 1) = ((i + 1:Nat):Int):=by rw [wrap64 (by omega) (by omega)];omega
    have h1:=fun H=>WCall_of (bytes_c x H)
    have hbl:=bytes_len x
    unfold insA at h1
    simp only [encIns,dcells_cons,dcells_nil] at h1
    rw [drop_at hx0,encF] at hv
    simp only [go_sem,h,e2,encIns,h1]
    refine WG_intro (fun h2=>?_) fun h2=>?_
    · have h3:(bytesS x).2 ≠ 0:=by simpa using h2
      rw [joinE_bad h3,joinE_bad2 (a:=(acc,0)) (r:=([],(bytesS x).2)) rfl h3] at hv
      simp only [go_sem,h2,hv]
      rfl
    · have h3:(bytesS x).2 = 0:=by simpa using h2
      rw [joinE_assoc rfl h3] at hv
      have hap:=fun O lw=>appendV_enc (fun b=>[i8 b]) (sz:=1) (fun _=>rfl) acc (bytesS x).1 (by unfold roomN;omega) O T lw
      have hrows:∀ H:St,H.rows (.d (.sl (r8s (bytesS x).1))) 1 = some (r8s (bytesS x).1):=by
        intro H
        simp only [St.rows]
        rw [if_pos (by simp [r8s])]
      change ∀ O lw,appendV ⟨O,tipL T (r8s acc),lw⟩ 1 (.own (r8s acc) (tipT T 1 (r8s acc))) (r8s (bytesS x).1) = some (.own (r8s (acc ++ (bytesS x).1)) (tipT T 1 (r8s (acc ++ (bytesS x).1))),⟨O,tipL T (r8s (acc ++ (bytesS x).1)),lw⟩) at hap
      simp only [go_sem,h2,hrows,hap,hwi]
      exact ⟨_,by omega,i + 1,acc ++ (bytesS x).1,by omega,rfl,by simp;omega,hv,rfl,rfl⟩
  · have hlt:i = l.length:=by have:=of_decide_eq_false h;omega
    subst hlt
    rw [List.drop_length,encF,joinE_good rfl rfl,List.append_nil] at hv
    simp only [go_sem,h,hv]
end Am
namespace Am
open Go C
set_option maxRecDepth 20000
theorem r8s_all (b:Str):(r8s b).all (·.length == 1) = true:=by simp [r8s]
theorem appendV_exact (a b:Str) (hn:a.length + b.length ≤ roomN) (T:List Nat) :
    ∃ t T',T'.take T.length = T ∧ ∀ (O:List Obj) (lw:Option Nat),appendV ⟨O,T,lw⟩ 1 (.own (r8s a) .exact) (r8s b) = some (.own (r8s (a ++ b)) t,⟨O,T',lw⟩):=by
  by_cases hb:b = []
  · subst hb
    exact ⟨.exact,T,by simp,fun O lw=>by simp [appendV,r8s]⟩
  · refine ⟨.tok T.length 1,T ++ [(r8s (a ++ b)).length],by simp,fun O lw=>?_⟩
    have h1:r8s b ≠ []:=by simp [r8s,hb]
    simp only [appendV,h1,if_false,r8s_all,Bool.true_and]
    rw [if_pos (by simp [r8s_len];exact hn)]
    simp [r8s_app]
def putRunS (b x:Str):Str × Int:=
  if 65535 < x.length then ([],3) else if (putS b 2 x.length).2 ≠ 0 then ([],(putS b 2 x.length).2) else ((putS b 2 x.length).1 ++ x,0)
theorem putRun_c (v:HV) (b x:Str) (hv:shut v = .d (.sl (r8s b))) (hb:b.length ≤ 1000000) (hx:x.length ≤ 1000000) (H:St) :
    CallsA prg 101 [v,.d (.sl (r8s x))] H (.tup [.d (.sl (r8s (putRunS b x).1)),.d (.int .i64 (putRunS b x).2)]) H:=by
  have w1:IntKind.u64.wrap (x.length:Int) = ((x.length:Nat):Int):=by
    show (if (false && decide ((x.length:Int) % 18446744073709551616 ≥ 9223372036854775808)) = true then (x.length:Int) % 18446744073709551616 - 18446744073709551616 else (x.length:Int) % 18446744073709551616) = _
    simp only [Bool.false_and,Bool.false_eq_true,if_false]
    omega
  have h1:=fun H=>WCall_of (put_c (.d (.sl (r8s b))) b rfl hb 2 x.length (by omega) H)
  have hpl:=put_len b 2 x.length
  refine calls_of2 rfl f101 ?_
  obtain ⟨B,T,lw⟩:=H
  simp only [go_sem,c101,hv,r8s_len]
  refine WG_intro (fun t=>?_) fun t=>?_
  · have ht:65535 < x.length:=by have:=of_decide_eq_true t;omega
    have hs:putRunS b x = ([],3):=by unfold putRunS;rw [if_pos ht]
    simp only [go_sem,t,hs]
    rfl
  have ht:¬ 65535 < x.length:=by have:=of_decide_eq_false t;omega
  simp only [Int.cast_ofNat_Int] at h1
  simp only [go_sem,t,r8s_len,w1,h1]
  refine WG_intro (fun t2=>?_) fun t2=>?_
  · have h2:(putS b 2 x.length).2 ≠ 0:=by simpa using t2
    have hs:putRunS b x = ([],(putS b 2 x.length).2):=by unfold putRunS;rw [if_neg ht,if_pos h2]
    simp only [go_sem,t2,hs]
    rfl
  · have h2:(putS b 2 x.length).2 = 0:=by simpa using t2
    have hs:putRunS b x = ((putS b 2 x.length).1 ++ x,0):=by unfold putRunS;rw [if_neg ht,if_neg (by simp [h2])]
    obtain ⟨tt,T',h3,h4⟩:=appendV_exact (putS b 2 x.length).1 x (by unfold roomN;omega) T
    simp only [go_sem,t2,r8s_all,h4,hs,h3]
def shrI (w:Int) (k:Nat):Int:=w.fdiv (2 ^ min k IntKind.u32.bits)
def wordB (w:Int):Str:=[byteU w,byteU (shrI w 8),byteU (shrI w 16),byteU (shrI w 24)]
def wordsB (l:List Int):Str:=(l.map wordB).flatten
def u32Rows (l:List Int):List (List D):=l.map fun w=>[.int .u32 w]
def OwI (l:List Int) (B:List Obj) (T:List Nat) (k:Nat) (e:Env) (H:St):Prop:=
  ∃ i,i ≤ l.length ∧ k = l.length - i ∧
    e = [(3,.own (r8s (wordsB (l.take i))) (tipB true T 1)),(10,.d (.sl (u32Rows l))),(11,.d (.int .i64 l.length)),(12,.d (.int .i64 i))] ∧ H = ⟨B,tipC true T (r8s (wordsB (l.take i))).length,none⟩
theorem octBytes_c (l:List Int) (hl:l.length ≤ 1000000) (H:St):CallsA prg 103 [.d (.sl (u32Rows l))] H (.d (.sl (r8s (wordsB l)))) H:=by
  have w4:IntKind.i64.wrap (4 * (l.length:Int)) = ((4 * l.length:Nat):Int):=by rw [wrap64 (by omega) (by omega)];omega
  have hul:(u32Rows l).length = l.length:=by simp [u32Rows]
  have m2:(((4 * l.length:Nat):Int) ≤ (roomN:Int)) = True:=eq_true (by unfold roomN;omega)
  have m3:((0:Int) ≤ ((4 * l.length:Nat):Int)) = True:=eq_true (by omega)
  refine calls_of2 rfl f103 ?_
  obtain ⟨B,T,lw⟩:=H
  simp only [go_sem,c103,hul,w4,m2,m3]
  refine loop_I (OwI l B T) l.length ⟨0,Nat.zero_le _,rfl,rfl,rfl⟩ ?_
  rintro k e H ⟨i,hi,rfl,rfl,rfl⟩
  simp only [go_sem,c103l0]
  refine WG_intro (fun h=>?_) fun h=>?_
  · have hlt:i < l.length:=by simpa using h
    obtain ⟨x,hx0⟩:=at_of_lt hlt
    have e2:(u32Rows l)[i]? = some [.int .u32 x]:=by simp [u32Rows,hx0]
    have hwi:IntKind.i64.wrap ((i:Int) + 1) = ((i + 1:Nat):Int):=by rw [wrap64 (by omega) (by omega)];omega
    have hnx:wordsB (l.take (i + 1)) = wordsB (l.take i) ++ wordB x:=by unfold wordsB;rw [List.take_add_one,hx0];simp
    have hwl:(wordsB (l.take i)).length ≤ 4000000:=by
      have key:∀ l:List Int,(wordsB l).length = 4 * l.length:=by
        intro l
        induction l with
        | nil=>rfl
        | cons x l ih=>unfold wordsB at ih ⊢;simp [ih,wordB];omega
      rw [key];simp;omega
    have hap:=fun O lw=>appendV_tip (B:=O) (T:=T) (lw:=lw) (sz:=1) (f:=true) (rows:=r8s (wordsB (l.take i))) (ys:=r8s (wordB x)) (by simp [r8s,wordB]) (r8s_all _) (by rw [r8s_len,r8s_len];unfold roomN;simp [wordB];omega)
    rw [← r8s_app,← hnx] at hap
    have hwb:r8s (wordB x) = [[.int .u8 (IntKind.u8.wrap x)],[.int .u8 (IntKind.u8.wrap (shrI x 8))],[.int .u8 (IntKind.u8.wrap (shrI x 16))],[.int .u8 (IntKind.u8.wrap (shrI x 24))]]:=by
      simp only [r8s,wordB,List.map_cons,List.map_nil,byteU_i8]
    rw [hwb] at hap
    simp only [shrI] at hap
    simp only [go_sem,h,e2,hap,hwi]
    exact ⟨_,by omega,i + 1,by omega,rfl,rfl,rfl⟩
  · have hlt:i = l.length:=by have:=of_decide_eq_false h;omega
    subst hlt
    simp only [go_sem,h]
end Am
namespace Am
open Go C
set_option maxRecDepth 20000
structure LB where
  v:HV
  b:Str
  q:Bool
structure LB.ok (s:LB):Prop where
  sh:shut s.v = .d (.sl (r8s s.b))
  lo:HV.loose1 s.v = false
  cs:s.v.cells = [s.v]
  fl:HV.flat1 s.v = true
  sr:∀ H n,shutR H n s.v = .d (.sl (r8s s.b))
def bO (s:LB):Obj:=.cells [s.v]
def qO (s:LB):Obj:=.cells [.d (.bool s.q)]
def putL (s:LB) (w n:Nat):LB:=if (putS s.b w n).2 ≠ 0 then ⟨s.v,s.b,false⟩ else ⟨.own (r8s (putS s.b w n).1) .exact,(putS s.b w n).1,s.q⟩
def runL (s:LB) (x:Str) (e:Int):LB:=if e ≠ 0 ∨ (putRunS s.b x).2 ≠ 0 then ⟨s.v,s.b,false⟩ else ⟨.d (.sl (r8s (putRunS s.b x).1)),(putRunS s.b x).1,s.q⟩
theorem ok_own (b:Str) (q:Bool):LB.ok ⟨.own (r8s b) .exact,b,q⟩:=⟨rfl,rfl,rfl,rfl,fun _ _=>rfl⟩
theorem ok_d (b:Str) (q:Bool):LB.ok ⟨.d (.sl (r8s b)),b,q⟩:=⟨rfl,rfl,rfl,rfl,fun _ _=>rfl⟩
theorem LB.ok.put {s:LB} (h:s.ok) (w n:Nat):(putL s w n).ok:=by
  unfold putL;split
  · exact ⟨h.sh,h.lo,h.cs,h.fl,h.sr⟩
  · exact ok_own _ _
theorem LB.ok.run {s:LB} (h:s.ok) (x:Str) (e:Int):(runL s x e).ok:=by
  unfold runL;split
  · exact ⟨h.sh,h.lo,h.cs,h.fl,h.sr⟩
  · exact ok_d _ _
theorem putL_len (s:LB) (w n:Nat):(putL s w n).b.length ≤ s.b.length + 8:=by
  unfold putL;split
  · simp
  · exact put_len _ _ _
theorem putRun_len (b x:Str):(putRunS b x).1.length ≤ b.length + 8 + x.length:=by
  have:=put_len b 2 x.length
  unfold putRunS
  split
  · simp
  · split
    · simp
    · simp;omega
theorem runL_len (s:LB) (x:Str) (e:Int):(runL s x e).b.length ≤ s.b.length + 8 + x.length:=by
  unfold runL;split
  · simp;omega
  · exact putRun_len _ _
theorem lput_c (s:LB) (hs:s.ok) (hl:s.b.length ≤ 900000) (w n:Nat) (hn:n < 18446744073709551616) (ob oq:Nat) (hne:ob ≠ oq) (O:List Obj) (T:List Nat) (lw:Option Nat) (h1:O[ob]? = some (bO s)) (h2:O[oq]? = some (qO s)) :
    CallsA prg 98 [.d (.int .i64 w),.d (.int .u64 n),.ref ob 0,.ref oq 0] ⟨O,T,lw⟩ (.tup []) ⟨(O.set ob (bO (putL s w n))).set oq (qO (putL s w n)),T,lw⟩:=by
  have hp:=fun H=>WCall_of (put_c s.v s.b hs.sh (by omega) w n hn H)
  have hl1:=lt_of_some h1
  have hl2:=lt_of_some h2
  have e1:=set_same h1
  have e2:=set_same h2
  have f1:=hs.lo
  have f2:=hs.cs
  have f3:=hs.fl
  simp only [bO,qO] at h1 h2 e1 e2
  have e3:∀ y,(O.set ob y).set oq (.cells [.d (.bool s.q)]) = O.set ob y:=fun y=>set_same (by rw [List.getElem?_set_ne hne];exact h2)
  refine calls_of2 rfl f98 ?_
  simp only [go_sem,c98,h1,hp,f1,f2,f3]
  refine WG_intro (fun t=>?_) fun t=>?_
  · have ht:(putS s.b w n).2 ≠ 0:=by simpa using t
    have hq:putL s w n = ⟨s.v,s.b,false⟩:=by unfold putL;rw [if_pos ht]
    simp only [go_sem,t,hq,bO,qO,h2,e1]
  · have ht:(putS s.b w n).2 = 0:=by simpa using t
    have hq:putL s w n = ⟨.own (r8s (putS s.b w n).1) .exact,(putS s.b w n).1,s.q⟩:=by unfold putL;rw [if_neg (by simp [ht])]
    simp only [go_sem,t,hq,bO,qO,h1]
    rw [e3]
theorem lrun_c (s:LB) (hs:s.ok) (hl:s.b.length ≤ 900000) (x:Str) (hx:x.length ≤ 1000000) (e:Int) (ob oq:Nat) (hne:ob ≠ oq) (O:List Obj) (T:List Nat) (lw:Option Nat) (h1:O[ob]? = some (bO s)) (h2:O[oq]? = some (qO s)) :
    CallsA prg 100 [.d (.sl (r8s x)),.d (.int .i64 e),.ref ob 0,.ref oq 0] ⟨O,T,lw⟩ (.tup []) ⟨(O.set ob (bO (runL s x e))).set oq (qO (runL s x e)),T,lw⟩:=by
  have hp:=fun H=>WCall_of (putRun_c s.v s.b x hs.sh (by omega) hx H)
  have hl1:=lt_of_some h1
  have hl2:=lt_of_some h2
  have e1:=set_same h1
  have e2:=set_same h2
  have f1:=hs.lo
  have f2:=hs.cs
  have f3:=hs.fl
  simp only [bO,qO] at h1 h2 e1 e2
  have e3:∀ y,(O.set ob y).set oq (.cells [.d (.bool s.q)]) = O.set ob y:=fun y=>set_same (by rw [List.getElem?_set_ne hne];exact h2)
  refine calls_of2 rfl f100 ?_
  simp only [go_sem,c100,h1,hp,f1,f2,f3]
  by_cases hb:e ≠ 0 ∨ (putRunS s.b x).2 ≠ 0
  · have hq:runL s x e = ⟨s.v,s.b,false⟩:=by unfold runL;rw [if_pos hb]
    have hb':(e != 0) = true ∨ ((e != 0) = false ∧ ((putRunS s.b x).2 != 0) = true):=by
      by_cases h:e = 0
      · right;refine ⟨by simp [h],by rcases hb with h2 | h2;exact absurd h h2;simpa using h2⟩
      · exact .inl (by simp [h])
    rcases hb' with t | ⟨t,t2⟩
    · simp only [go_sem,t,hq,bO,qO,h2,e1]
    · simp only [go_sem,t,t2,hq,bO,qO,h2,e1]
  · have h3:e = 0:=Decidable.not_not.1 fun h=>hb (.inl h)
    have h4:(putRunS s.b x).2 = 0:=Decidable.not_not.1 fun h=>hb (.inr h)
    have hq:runL s x e = ⟨.d (.sl (r8s (putRunS s.b x).1)),(putRunS s.b x).1,s.q⟩:=by unfold runL;rw [if_neg hb]
    have t:(e != 0) = false:=by simp [h3]
    have t2:((putRunS s.b x).2 != 0) = false:=by simp [h4]
    simp only [go_sem,t,t2,hq,bO,qO,h1]
    rw [e3]
structure Img where
  version:Int
  from_:Int
  elder:Int
  frame:Frame
  first:List Int
  step:List Ins
  move:List Ins
  sfuel:Int
  mfuel:Int
def encImg (m:Img):List D:=
  [.int .u32 m.version,.int .u32 m.from_,.int .i64 m.elder,.int .i64 m.frame.slots,.int .i64 m.frame.old,.int .i64 m.frame.new,.int .i64 m.frame.ins,.int .i64 m.frame.outs,
    .sl (i32Rows m.first),.sl (m.step.map encIns),.sl (m.move.map encIns),.int .i64 m.sfuel,.int .i64 m.mfuel]
def imgA (m:Img):HV:=.agg (dcells (encImg m))
def nU (n:Int):Nat:=(u64 n).toNat
def layNums (m:Img):List Int:=[m.elder,m.frame.slots,m.frame.new,m.frame.ins,m.frame.outs]
def putsL (s:LB) (l:List Int):LB:=l.foldl (fun s n=>putL s 1 (nU n)) s
def lay0:LB:=⟨.own (r8s [77,73,68,83]) .exact,[77,73,68,83],true⟩
def lay1 (m:Img):LB:=putL (putL lay0 4 (nU m.version)) 4 (nU m.from_)
def lay2 (m:Img):LB:=putsL (lay1 m) (layNums m)
def lay3 (m:Img):LB:=putL (putL (lay2 m) 2 (nU m.sfuel)) 2 (nU m.mfuel)
def lay4 (m:Img):LB:=runL (runL (runL (lay3 m) (wordsB (m.first.map u32)) 0) (encS m.step).1 (encS m.step).2) (encS m.move).1 (encS m.move).2
theorem lay0_ok:lay0.ok:=ok_own _ _
theorem lay1_ok (m:Img):(lay1 m).ok:=(lay0_ok.put _ _).put _ _
theorem puts_ok:∀ (l:List Int) {s:LB},s.ok→(putsL s l).ok
  | [],_,h=>h
  | n :: l,_,h=>puts_ok l (h.put 1 (nU n))
theorem lay2_ok (m:Img):(lay2 m).ok:=puts_ok _ (lay1_ok m)
theorem lay3_ok (m:Img):(lay3 m).ok:=((lay2_ok m).put _ _).put _ _
theorem lay4_ok (m:Img):(lay4 m).ok:=(((lay3_ok m).run _ _).run _ _).run _ _
theorem puts_len:∀ (l:List Int) (s:LB),(putsL s l).b.length ≤ s.b.length + 8 * l.length
  | [],s=>by simp [putsL]
  | n :: l,s=>by
    have h1:=puts_len l (putL s 1 (nU n))
    have h2:=putL_len s 1 (nU n)
    simp only [putsL,List.foldl_cons,List.length_cons] at h1 ⊢
    omega
theorem lay1_len (m:Img):(lay1 m).b.length ≤ 20:=by
  have h1:=putL_len lay0 4 (nU m.version)
  have h2:=putL_len (putL lay0 4 (nU m.version)) 4 (nU m.from_)
  have h0:lay0.b.length = 4:=rfl
  unfold lay1;omega
theorem lay2_len (m:Img):(lay2 m).b.length ≤ 60:=by
  have h1:=lay1_len m
  have h2:=puts_len (layNums m) (lay1 m)
  have h3:(layNums m).length = 5:=rfl
  unfold lay2;omega
theorem lay3_len (m:Img):(lay3 m).b.length ≤ 76:=by
  have h1:=lay2_len m
  have h2:=putL_len (lay2 m) 2 (nU m.sfuel)
  have h3:=putL_len (putL (lay2 m) 2 (nU m.sfuel)) 2 (nU m.mfuel)
  unfold lay3;omega
theorem wordsB_len (l:List Int):(wordsB l).length = 4 * l.length:=by
  induction l with
  | nil=>rfl
  | cons x l ih=>unfold wordsB at ih ⊢;simp [ih,wordB];omega
theorem encS_len (l:List Ins):(encS l).1.length ≤ 5400:=by
  unfold encS
  split
  · simp
  · have:=encF_len l;omega
theorem nU_lt (n:Int):nU n < 18446744073709551616:=by
  have:=u64_range n
  unfold nU;omega
theorem nU_int (n:Int):((nU n:Nat):Int) = IntKind.u64.wrap n:=by
  have:=u64_range n
  unfold nU
  rw [Int.toNat_of_nonneg this.1];rfl
end Am
namespace Am
open Go C
set_option maxRecDepth 20000
def imgO (m:Img):Obj:=.cells (dcells (encImg m))
def Ly0I (m:Img) (B:List Obj) (T:List Nat) (k:Nat) (e:Env) (H:St):Prop:=
  ∃ i,i ≤ 5 ∧ k = 5 - i ∧
    e = [(1,.ref B.length 0),(4,.ref (B.length + 1) 0),(5,.ref (B.length + 2) 0),(6,.fn 98 [] [.ref (B.length + 1) 0,.ref (B.length + 2) 0]),(7,.fn 100 [] [.ref (B.length + 1) 0,.ref (B.length + 2) 0]),
      (41,.own ((layNums m).map fun n=>[.int .i64 n]) .exact),(42,.d (.int .i64 5)),(43,.d (.int .i64 i))] ∧
    H = ⟨B ++ [imgO m,bO (putsL (lay1 m) ((layNums m).take i)),qO (putsL (lay1 m) ((layNums m).take i))],T,none⟩
def Ly1I (m:Img) (s:LB) (B:List Obj) (T:List Nat) (k:Nat) (e:Env) (H:St):Prop:=
  ∃ i,i ≤ m.first.length ∧ k = m.first.length - i ∧
    e = [(1,.ref B.length 0),(4,.ref (B.length + 1) 0),(5,.ref (B.length + 2) 0),(7,.fn 100 [] [.ref (B.length + 1) 0,.ref (B.length + 2) 0]),
      (10,.own (u32Rows ((m.first.take i).map u32)) (tipT T 1 (u32Rows ((m.first.take i).map u32)))),(63,.d (.sl (i32Rows m.first))),(64,.d (.int .i64 m.first.length)),(65,.d (.int .i64 i))] ∧
    H = ⟨B ++ [imgO m,bO s,qO s],tipL T (u32Rows ((m.first.take i).map u32)),none⟩
theorem puts_take (s:LB) (l:List Int) (i:Nat) (n:Int) (h:l[i]? = some n):putsL s (l.take (i + 1)) = putL (putsL s (l.take i)) 1 (nU n):=by
  unfold putsL
  rw [List.take_add_one,h]
  simp
theorem bO_fold:Obj.cells [.own [[.int .u8 77],[.int .u8 73],[.int .u8 68],[.int .u8 83]] .exact] = bO lay0:=rfl
theorem qO_fold:Obj.cells [.d (.bool true)] = qO lay0:=rfl
theorem wput (m:Img) (s:LB) (hs:s.ok) (hl:s.b.length ≤ 900000) (w:Nat) (n:Int) (B X:List Obj) (T:List Nat) (lw:Option Nat) (K:HV→St→Prop) :
    WCall prg 98 [.d (.int .i64 w),.d (.int .u64 (IntKind.u64.wrap n)),.ref (B.length + 1) 0,.ref (B.length + 2) 0] ⟨B ++ imgO m :: bO s :: qO s :: X,T,lw⟩ K =
      K (.tup []) ⟨B ++ imgO m :: bO (putL s w (nU n)) :: qO (putL s w (nU n)) :: X,T,lw⟩:=by
  have:=WCall_of (lput_c s hs hl w (nU n) (nU_lt n) (B.length + 1) (B.length + 2) (by omega) (B ++ imgO m :: bO s :: qO s :: X) T lw (by simp only [go_sem]) (by simp only [go_sem])) K
  rw [nU_int] at this
  simp only [go_sem] at this
  exact this
theorem wrun (m:Img) (s:LB) (hs:s.ok) (hl:s.b.length ≤ 900000) (x:Str) (hx:x.length ≤ 1000000) (e:Int) (B X:List Obj) (T:List Nat) (lw:Option Nat) (K:HV→St→Prop) :
    WCall prg 100 [.d (.sl (r8s x)),.d (.int .i64 e),.ref (B.length + 1) 0,.ref (B.length + 2) 0] ⟨B ++ imgO m :: bO s :: qO s :: X,T,lw⟩ K =
      K (.tup []) ⟨B ++ imgO m :: bO (runL s x e) :: qO (runL s x e) :: X,T,lw⟩:=by
  have:=WCall_of (lrun_c s hs hl x hx e (B.length + 1) (B.length + 2) (by omega) (B ++ imgO m :: bO s :: qO s :: X) T lw (by simp only [go_sem]) (by simp only [go_sem])) K
  simp only [go_sem] at this
  exact this
theorem imgO_cells (m:Img):cellsOf (some (imgO m)) = some (dcells (encImg m)):=rfl
theorem bO_cells (s:LB):cellsOf (some (bO s)) = some [s.v]:=rfl
theorem qO_cells (s:LB):cellsOf (some (qO s)) = some [.d (.bool s.q)]:=rfl
theorem imgO_fold (m:Img):Obj.cells [.d (.int .u32 m.version),.d (.int .u32 m.from_),.d (.int .i64 m.elder),.d (.int .i64 m.frame.slots),.d (.int .i64 m.frame.old),.d (.int .i64 m.frame.new),.d (.int .i64 m.frame.ins),.d (.int .i64 m.frame.outs),
    .d (.sl (i32Rows m.first)),.d (.sl (m.step.map encIns)),.d (.sl (m.move.map encIns)),.d (.int .i64 m.sfuel),.d (.int .i64 m.mfuel)] = imgO m:=rfl
theorem lay_bytes_c (m:Img) (h1:m.first.length ≤ 10000) (h2:m.step.length ≤ 100000000) (h3:m.move.length ≤ 100000000) (H:St) :
    CallsA prg 41 [imgA m] H (.tup [.d (.sl (r8s (lay4 m).b)),.d (.bool (lay4 m).q)]) H:=by
  have p1:=wput m lay0 lay0_ok (by decide) 4 m.version
  have p2:=wput m (putL lay0 4 (nU m.version)) (lay0_ok.put _ _) (by have:=putL_len lay0 4 (nU m.version);have h0:lay0.b.length = 4:=rfl;omega) 4 m.from_
  have f1:putL (putL lay0 4 (nU m.version)) 4 (nU m.from_) = lay1 m:=rfl
  have l1:=lay1_len m
  have l2:=lay2_len m
  have l3:=lay3_len m
  have p3:=wput m (lay2 m) (lay2_ok m) (by omega) 2 m.sfuel
  have p4:=wput m (putL (lay2 m) 2 (nU m.sfuel)) ((lay2_ok m).put _ _) (by have:=putL_len (lay2 m) 2 (nU m.sfuel);omega) 2 m.mfuel
  have f3:putL (putL (lay2 m) 2 (nU m.sfuel)) 2 (nU m.mfuel) = lay3 m:=rfl
  have hwl:=wordsB_len (m.first.map u32)
  have he1:=encS_len m.step
  have he2:=encS_len m.move
  have q1:=runL_len (lay3 m) (wordsB (m.first.map u32)) 0
  have q2:=runL_len (runL (lay3 m) (wordsB (m.first.map u32)) 0) (encS m.step).1 (encS m.step).2
  rw [List.length_map] at hwl
  have p5:=wrun m (lay3 m) (lay3_ok m) (by omega) (wordsB (m.first.map u32)) (by omega) 0
  have p6:=wrun m (runL (lay3 m) (wordsB (m.first.map u32)) 0) ((lay3_ok m).run _ _) (by omega) (encS m.step).1 (by omega) (encS m.step).2
  have p7:=wrun m (runL (runL (lay3 m) (wordsB (m.first.map u32)) 0) (encS m.step).1 (encS m.step).2) (((lay3_ok m).run _ _).run _ _) (by omega) (encS m.move).1 (by omega) (encS m.move).2
  have f7:runL (runL (runL (lay3 m) (wordsB (m.first.map u32)) 0) (encS m.step).1 (encS m.step).2) (encS m.move).1 (encS m.move).2 = lay4 m:=rfl
  have o1:=fun H=>WCall_of (octBytes_c (m.first.map u32) (by simp;omega) H)
  have c1:=fun H=>WCall_of (encode_c m.step h2 H)
  have c2:=fun H=>WCall_of (encode_c m.move h3 H)
  simp only [insV] at c1 c2
  simp only [Int.cast_ofNat_Int] at p1 p2 p3 p4
  simp only [f1] at p2
  simp only [f3] at p4
  simp only [f7] at p7
  unfold imgA encImg
  simp only [dcells_cons,dcells_nil]
  refine calls_of2 rfl f41 ?_
  obtain ⟨B,T,lw⟩:=H
  simp only [go_sem,c41,bO_fold,qO_fold,imgO_fold,imgO_cells,encImg,p1,p2]
  refine loop_I (Ly0I m B T) 5 ⟨0,by omega,rfl,rfl,rfl⟩ ?_
  rintro k e H ⟨i,hi,rfl,rfl,rfl⟩
  simp only [go_sem,c41l0]
  refine WG_intro (fun h=>?_) fun h=>?_
  · have hlt:i < (layNums m).length:=by have:(layNums m).length = 5:=rfl;have:=of_decide_eq_true h;omega
    have hn5:(layNums m).length = 5:=rfl
    obtain ⟨x,hx0⟩:=at_of_lt hlt
    have e2:((layNums m).map fun n=>[D.int .i64 n])[i]? = some [.int .i64 x]:=by simp [hx0]
    have hwi:IntKind.i64.wrap ((i:Int) + 1) = ((i + 1:Nat):Int):=by rw [wrap64 (by omega) (by omega)];omega
    have hpl:=puts_len ((layNums m).take i) (lay1 m)
    have hp:=wput m (putsL (lay1 m) ((layNums m).take i)) (puts_ok _ (lay1_ok m)) (by simp at hpl;have:(layNums m).length = 5:=rfl;omega) 1 x
    rw [← puts_take (lay1 m) (layNums m) i x hx0] at hp
    simp only [Int.natCast_one] at hp
    simp only [go_sem,h,e2,hp,hwi]
    exact ⟨_,by omega,i + 1,by omega,rfl,rfl,rfl⟩
  have hlt:i = 5:=by have:=of_decide_eq_false h;omega
  subst hlt
  have f2:putsL (lay1 m) ((layNums m).take 5) = lay2 m:=rfl
  have hil:(i32Rows m.first).length = m.first.length:=by simp [i32Rows]
  simp only [go_sem,h,f2,imgO_cells,encImg,p3,p4,hil]
  refine loop_I (Ly1I m (lay3 m) B T) m.first.length ⟨0,Nat.zero_le _,rfl,rfl,rfl⟩ ?_
  clear h hi
  rintro k e H ⟨i,hi,rfl,rfl,rfl⟩
  simp only [go_sem,c41l1]
  refine WG_intro (fun h=>?_) fun h=>?_
  · have hlt:i < m.first.length:=by simpa using h
    obtain ⟨x,hx0⟩:=at_of_lt hlt
    have e2:(i32Rows m.first)[i]? = some [.int .i32 x]:=by simp [i32Rows,hx0]
    have hwi:IntKind.i64.wrap ((i:Int) + 1) = ((i + 1:Nat):Int):=by rw [wrap64 (by omega) (by omega)];omega
    have hpc:=fun H=>WCall_of (plain_c x H)
    have hap:=fun O lw=>appendV_enc (fun w:Int=>[D.int .u32 w]) (sz:=1) (fun _=>rfl) ((m.first.take i).map u32) [u32 x] (by unfold roomN;simp;omega) O T lw
    have hnx:(m.first.take i).map u32 ++ [u32 x] = (m.first.take (i + 1)).map u32:=by rw [List.take_add_one,hx0];simp
    rw [hnx] at hap
    change ∀ O lw,appendV ⟨O,tipL T (u32Rows ((m.first.take i).map u32)),lw⟩ 1 (.own (u32Rows ((m.first.take i).map u32)) (tipT T 1 (u32Rows ((m.first.take i).map u32)))) [[.int .u32 (u32 x)]] = some (.own (u32Rows ((m.first.take (i + 1)).map u32)) (tipT T 1 (u32Rows ((m.first.take (i + 1)).map u32))),⟨O,tipL T (u32Rows ((m.first.take (i + 1)).map u32)),lw⟩) at hap
    simp only [go_sem,h,e2,hpc,hap,hwi]
    exact ⟨_,by omega,i + 1,by omega,rfl,rfl,rfl⟩
  · have hlt:i = m.first.length:=by have:=of_decide_eq_false h;omega
    subst hlt
    have o2:∀ H K t,WCall prg 103 [.own (u32Rows (m.first.map u32)) t] H K = K (.d (.sl (r8s (wordsB (m.first.map u32))))) H:=fun H K t=>by
      refine (WCall_of (calls_same (args:=[.d (.sl (u32Rows (m.first.map u32)))]) (args':=[.own (u32Rows (m.first.map u32)) t]) rfl f103 rfl (octBytes_c (m.first.map u32) (by simp;omega) H)) K)
    have s1:=(lay4_ok m).cs
    have s2:=(lay4_ok m).sr
    simp only [go_sem,h,List.take_length,o2,p5,imgO_cells,encImg,c1,p6,c2,p7,bO_cells,qO_cells,s1,s2]
end Am
