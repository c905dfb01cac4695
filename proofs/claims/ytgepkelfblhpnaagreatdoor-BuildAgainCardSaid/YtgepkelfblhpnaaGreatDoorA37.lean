/- A part of the proof of BuildAgain: no condition of its own. Whence: AmImg3, AmImg4, AmImg5, AmRt3. -/
import Derived.Test.YtgepkelfblhpnaaGreatDoorA36
import Derived.Test.YtgepkelfblhpnaaGreatDoorA33
set_option linter.all false
namespace Am
open Go C
set_option maxRecDepth 20000
def movesF (m:Img):Frame:=⟨0,m.elder,m.frame.new,0,0⟩
theorem moves_c (m:Img) (H:St):CallsA prg 44 [imgA m] H (frameA (movesF m)) H:=by
  unfold imgA encImg frameA encFrame movesF
  simp only [dcells_cons,dcells_nil]
  refine calls_of2 rfl f44 ?_
  obtain ⟨B,T,lw⟩:=H
  simp only [go_sem,c44]
def boundS (l:List Ins) (f:Frame) (fuel:Int):Int:=if (checkS l f).e = 0 ∧ (checkS l f).fuel ≠ fuel then 14 else (checkS l f).e
theorem bound_c (l:List Ins) (hl:l.length ≤ 100000000) (f:Frame) (fuel:Int) (H:St):CallsA prg 43 [.d (insV l),frameA f,.d (.int .i64 fuel)] H (.d (.int .i64 (boundS l f fuel))) H:=by
  have h1:=fun H=>WCall_of (check_c l f H hl)
  unfold frameA encFrame at h1 ⊢
  unfold repV at h1
  simp only [dcells_cons,dcells_nil] at h1 ⊢
  refine calls_of2 rfl f43 ?_
  obtain ⟨B,T,lw⟩:=H
  simp only [go_sem,c43,h1]
  repeat' (refine WG_intro ?_ ?_ <;> intro h <;> (try simp only [go_sem,h]))
  all_goals simp_all [boundS]
structure Img.fit (m:Img):Prop where
  first:m.first.length ≤ 10000
  step:m.step.length ≤ 100000000
  move:m.move.length ≤ 100000000
def checkI (m:Img):Int:=
  if m.version = 0 ∨ m.from_ ≥ m.version ∨ m.elder < 0 ∨ 16 < m.elder then 1
  else if m.frame.old ≠ m.frame.new ∨ (m.first.length:Int) ≠ m.frame.new then 1
  else if m.from_ = 0 ∧ (0 < m.elder ∨ 0 < m.move.length) then 1
  else if boundS m.step m.frame m.sfuel ≠ 0 then boundS m.step m.frame m.sfuel
  else boundS m.move (movesF m) m.mfuel
theorem i32R_len (l:List Int):(i32Rows l).length = l.length:=by simp [i32Rows]
theorem checkI_c (m:Img) (hm:m.fit) (H:St):CallsA prg 18 [imgA m] H (.d (.int .i64 (checkI m))) H:=by
  have h1:=fun H=>WCall_of (bound_c m.step hm.step m.frame m.sfuel H)
  have h2:=fun H=>WCall_of (moves_c m H)
  have h3:=fun H=>WCall_of (bound_c m.move hm.move (movesF m) m.mfuel H)
  unfold frameA encFrame at h1 h2 h3
  unfold imgA encImg at h2
  unfold imgA encImg
  simp only [dcells_cons,dcells_nil,insV] at h1 h2 h3 ⊢
  refine calls_of2 rfl f18 ?_
  obtain ⟨B,T,lw⟩:=H
  simp only [go_sem,c18,h1]
  repeat' (refine WG_intro ?_ ?_ <;> intro h <;> (try simp only [go_sem,h,h1,h2,h3,i32R_len,List.length_map]))
  all_goals clear h1 h2 h3
  all_goals refine congrArg (fun x=>(HV.d (.int .i64 x),(⟨B,T,lw⟩:St))) ?_
  all_goals simp only [beq_iff_eq,decide_eq_true_eq,decide_eq_false_iff_not,beq_eq_false_iff_ne,bne_iff_ne,bne_eq_false_iff_eq,ne_eq,Decidable.not_not] at *
  all_goals unfold checkI
  all_goals simp [*]
  all_goals first | omega | (rename_i h;intro _ h2;rw [h2] at h;exact absurd h (by simp)) | skip
def encodeI (m:Img):Str × Int:=
  if checkI m ≠ 0 then ([],checkI m) else if (lay4 m).q = false ∨ 2016 < (lay4 m).b.length then ([],3) else ((lay4 m).b,0)
theorem encodeI_c (m:Img) (hm:m.fit) (H:St):CallsA prg 16 [imgA m] H (.tup [.d (.sl (r8s (encodeI m).1)),.d (.int .i64 (encodeI m).2)]) H:=by
  have h1:=fun H=>WCall_of (checkI_c m hm H)
  have h2:=fun H=>WCall_of (lay_bytes_c m hm.first hm.step hm.move H)
  unfold imgA encImg at h1 h2 ⊢
  simp only [dcells_cons,dcells_nil] at h1 h2 ⊢
  refine calls_of2 rfl f16 ?_
  obtain ⟨B,T,lw⟩:=H
  simp only [go_sem,c16,h1]
  refine WG_intro (fun t=>?_) fun t=>?_
  · have ht:checkI m ≠ 0:=by simpa using t
    have hs:encodeI m = ([],checkI m):=by unfold encodeI;rw [if_pos ht]
    simp only [go_sem,t,hs]
    rfl
  have ht:checkI m = 0:=by simpa using t
  by_cases hb:(lay4 m).q = false ∨ 2016 < (lay4 m).b.length
  · have hs:encodeI m = ([],3):=by unfold encodeI;rw [if_neg (by simp [ht]),if_pos hb]
    have hb':(!(lay4 m).q) = true ∨ ((!(lay4 m).q) = false ∧ decide (((lay4 m).b.length:Int) > 2016) = true):=by
      cases hq:(lay4 m).q with
      | false=>exact .inl rfl
      | true=>
        rw [hq] at hb
        exact .inr ⟨rfl,decide_eq_true (by rcases hb with h | h;cases h;omega)⟩
    rcases hb' with t2 | ⟨t2,t3⟩
    · simp only [go_sem,t,h2,t2,r8s_len,hs]
      rfl
    · simp only [go_sem,t,h2,t2,r8s_len,t3,hs]
      rfl
  · have hs:encodeI m = ((lay4 m).b,0):=by unfold encodeI;rw [if_neg (by simp [ht]),if_neg hb]
    have t2:(!(lay4 m).q) = false:=by
      cases hq:(lay4 m).q with
      | false=>exact absurd (.inl hq) hb
      | true=>rfl
    have t3:decide (((lay4 m).b.length:Int) > 2016) = false:=decide_eq_false fun h=>hb (.inr (by omega))
    simp only [go_sem,t,h2,t2,r8s_len,t3,hs]
end Am
namespace Am
open Go C
set_option maxRecDepth 20000
def img0:Img:=⟨0,0,0,frame0,[],[],[],0,0⟩
def genM (p:Prog) (v:Int):Img:=⟨v,0,0,frameP p,firstS p,codeP p,[],(checkS (codeP p) (frameP p)).fuel,0⟩
def genIF (p:Prog) (v:Int):Fault:=if genF p ≠ (0,0,0) then genF p else if v = 0 then (4,0,1) else if (encodeI (genM p v)).2 ≠ 0 then (4,0,(encodeI (genM p v)).2) else (0,0,0)
def genI (p:Prog) (v:Int):Img:=if genIF p v ≠ (0,0,0) then img0 else genM p v
theorem genM_fit (p:Prog) (v:Int):(genM p v).fit:=by
  refine ⟨?_,?_,by simp [genM]⟩
  · have:=cellsS_len p
    simp [genM,firstS];omega
  · simp only [genM]
    unfold codeP
    split
    · simp
    · rename_i h
      unfold genF at h
      split at h
      · rename_i h2;exact absurd (by simpa using h) h2
      · split at h
        · exact absurd h (by simp)
        · omega
theorem genImage_c (p:Prog) (hp:p.fit) (hs:p.small) (v:Int) (H:St):CallsA prg 45 [progV p,.d (.int .u32 v)] H (.tup [imgA (genI p v),faultV (genIF p v)]) H:=by
  have h1:=fun H=>WCall_of (code_c p hp hs H)
  have h2:=fun H=>WCall_of (first_c p hp H)
  have h3:=fun H=>WCall_of (check_c (codeP p) (frameP p) H (genM_fit p v).step)
  have h4:=fun H=>WCall_of (calls_same (args:=[imgA (genM p v)]) (args':=[.agg [.d (.int .u32 v),.d (.int .u32 0),.d (.int .i64 0),.d (.int .i64 (frameP p).slots),.d (.int .i64 (frameP p).old),.d (.int .i64 (frameP p).new),.d (.int .i64 (frameP p).ins),.d (.int .i64 (frameP p).outs),
    .d (.sl (i32Rows (firstS p))),.d (.sl ((codeP p).map encIns)),.own [] .exact,.d (.int .i64 (checkS (codeP p) (frameP p)).fuel),.d (.int .i64 0)]]) rfl f16 rfl (encodeI_c (genM p v) (genM_fit p v) H))
  have hz:imgA img0 = .agg [.d (.int .u32 0),.d (.int .u32 0),.d (.int .i64 0),.d (.int .i64 0),.d (.int .i64 0),.d (.int .i64 0),.d (.int .i64 0),.d (.int .i64 0),.d (.sl []),.d (.sl []),.d (.sl []),.d (.int .i64 0),.d (.int .i64 0)]:=rfl
  unfold progV encProg faultV at h1 h2 ⊢
  unfold encFrame at h1
  unfold frameA encFrame at h3
  unfold repV at h3
  simp only [dcells_cons,dcells_nil,insV] at h1 h2 h3 ⊢
  refine calls_of2 rfl f45 ?_
  obtain ⟨B,T,lw⟩:=H
  simp only [go_sem,c45,h1]
  refine WG_intro (fun t=>?_) fun t=>?_
  rotate_left
  · have ht:genF p ≠ (0,0,0):=of_decide_eq_false t
    have e1:genIF p v = genF p:=by unfold genIF;rw [if_pos ht]
    have e2:genI p v = img0:=by unfold genI;rw [if_pos (by rw [e1];exact ht)]
    simp only [go_sem,t,e1,e2,hz]
  have ht:genF p = (0,0,0):=of_decide_eq_true t
  simp only [go_sem,t,ht]
  refine WG_intro (fun t2=>?_) fun t2=>?_
  · have ht2:v = 0:=by simpa using t2
    have e1:genIF p v = (4,0,1):=by unfold genIF;rw [if_neg (by simp [ht]),if_pos ht2]
    have e2:genI p v = img0:=by unfold genI;rw [if_pos (by rw [e1];decide)]
    simp only [go_sem,t2,e1,e2,hz]
  have ht2:v ≠ 0:=by simpa using t2
  simp only [go_sem,t2,h2,h3,h4]
  refine WG_intro (fun t3=>?_) fun t3=>?_
  · have ht3:(encodeI (genM p v)).2 ≠ 0:=by simpa using t3
    have e1:genIF p v = (4,0,(encodeI (genM p v)).2):=by unfold genIF;rw [if_neg (by simp [ht]),if_neg ht2,if_pos ht3]
    have e2:genI p v = img0:=by unfold genI;rw [if_pos (by rw [e1];simp)]
    simp only [go_sem,t3,e1,e2,hz]
  · have ht3:(encodeI (genM p v)).2 = 0:=by simpa using t3
    have e1:genIF p v = (0,0,0):=by unfold genIF;rw [if_neg (by simp [ht]),if_neg ht2,if_neg (by simp [ht3])]
    have e2:genI p v = genM p v:=by unfold genI;rw [if_neg (by simp [e1])]
    simp only [go_sem,t3,e1,e2]
    rfl
end Am
namespace Am
open Go C
set_option maxRecDepth 20000
def SmiI (a b:List Int) (R:Bool) (B:List Obj) (T:List Nat) (k:Nat) (e:Env) (H:St):Prop:=
  ∃ i,i ≤ a.length ∧ k = a.length - i ∧ decide (a.drop i = b.drop i) = R ∧ e = [(0,.d (.sl (i32Rows a))),(1,.d (.sl (i32Rows b))),(5,.d (.int .i64 i))] ∧ H = ⟨B,T,none⟩
theorem ints_c (a b:List Int) (ha:a.length ≤ 1000000) (hb:b.length ≤ 1000000) (H:St):CallsA prg 22 [.d (.sl (i32Rows a)),.d (.sl (i32Rows b))] H (.d (.bool (decide (a = b)))) H:=by
  refine calls_of2 rfl f22 ?_
  obtain ⟨B,T,lw⟩:=H
  simp only [go_sem,c22,i32R_len]
  refine WG_intro (fun t=>?_) fun t=>?_
  · have ht:a ≠ b:=by rintro rfl;simp at t
    simp only [go_sem,t,decide_eq_false ht]
  have ht:a.length = b.length:=by have:(a.length:Int) = (b.length:Int):=bne_eq_false_iff_eq.1 t;omega
  simp only [go_sem,t]
  refine loop_I (SmiI a b (decide (a = b)) B T) a.length ⟨0,Nat.zero_le _,rfl,rfl,rfl,rfl⟩ ?_
  rintro k e H ⟨i,hi,rfl,hv,rfl,rfl⟩
  simp only [go_sem,c22l0,i32R_len]
  refine WG_intro (fun h=>?_) fun h=>?_
  · have hlt:i < a.length:=by simpa using h
    obtain ⟨x,hx⟩:=at_of_lt hlt
    obtain ⟨y,hy⟩:=at_of_lt (l:=b) (i:=i) (by omega)
    have e1:(i32Rows a)[i]? = some [.int .i32 x]:=by simp [i32Rows,hx]
    have e2:(i32Rows b)[i]? = some [.int .i32 y]:=by simp [i32Rows,hy]
    have hwi:IntKind.i64.wrap ((i:Int) + 1) = ((i + 1:Nat):Int):=by rw [wrap64 (by omega) (by omega)];omega
    rw [drop_at hx,drop_at hy] at hv
    simp only [go_sem,h,e1,e2]
    refine WG_intro (fun h2=>?_) fun h2=>?_
    · have h3:x ≠ y:=by simpa using h2
      have hf:decide (a = b) = false:=by rw [← hv];simp [h3]
      simp only [go_sem,h2,hf]
    · have h3:x = y:=by simpa using h2
      simp only [go_sem,h2,hwi]
      refine ⟨_,by omega,i + 1,by omega,rfl,?_,rfl,rfl⟩
      rw [← hv,h3];simp
  · have hlt:a.length ≤ i:=by simpa using h
    have hf:decide (a = b) = true:=by rw [← hv,List.drop_of_length_le hlt,List.drop_of_length_le (by omega)];rfl
    simp only [go_sem,h,hf]
def SmcI (a b:List Ins) (R:Bool) (B:List Obj) (T:List Nat) (k:Nat) (e:Env) (H:St):Prop:=
  ∃ i,i ≤ a.length ∧ k = a.length - i ∧ decide (a.drop i = b.drop i) = R ∧ e = [(0,.d (.sl (a.map encIns))),(1,.d (.sl (b.map encIns))),(5,.d (.int .i64 i))] ∧ H = ⟨B,T,none⟩
theorem sameIns_c (a b:List Ins) (ha:a.length ≤ 100000000) (hb:b.length ≤ 100000000) (H:St):CallsA prg 23 [.d (.sl (a.map encIns)),.d (.sl (b.map encIns))] H (.d (.bool (decide (a = b)))) H:=by
  refine calls_of2 rfl f23 ?_
  obtain ⟨B,T,lw⟩:=H
  simp only [go_sem,c23,List.length_map]
  refine WG_intro (fun t=>?_) fun t=>?_
  · have ht:a ≠ b:=by rintro rfl;simp at t
    simp only [go_sem,t,decide_eq_false ht]
  have ht:a.length = b.length:=by have:(a.length:Int) = (b.length:Int):=bne_eq_false_iff_eq.1 t;omega
  simp only [go_sem,t]
  refine loop_I (SmcI a b (decide (a = b)) B T) a.length ⟨0,Nat.zero_le _,rfl,rfl,rfl,rfl⟩ ?_
  rintro k e H ⟨i,hi,rfl,hv,rfl,rfl⟩
  simp only [go_sem,c23l0,List.length_map]
  refine WG_intro (fun h=>?_) fun h=>?_
  · have hlt:i < a.length:=by simpa using h
    obtain ⟨x,hx⟩:=at_of_lt hlt
    obtain ⟨y,hy⟩:=at_of_lt (l:=b) (i:=i) (by omega)
    have e1:(a.map encIns)[i]? = some (encIns x):=by simp [hx]
    have e2:(b.map encIns)[i]? = some (encIns y):=by simp [hy]
    have hwi:IntKind.i64.wrap ((i:Int) + 1) = ((i + 1:Nat):Int):=by rw [wrap64 (by omega) (by omega)];omega
    have hce:cellsEq [.i,.i] [.int .i64 x.op,.int .i32 x.n] [.int .i64 y.op,.int .i32 y.n] = some (decide (x = y)):=by
      cases x;cases y
      simp only [cellsEq,scalarEq,if_true,Ins.mk.injEq,Bool.and_true,Option.some.injEq]
      rename_i a1 a2 b1 b2
      by_cases h1:a1 = b1 <;> by_cases h2:a2 = b2 <;> simp [h1,h2]
    rw [drop_at hx,drop_at hy] at hv
    simp only [go_sem,h,e1,e2,encIns,hce]
    refine WG_intro (fun h2=>?_) fun h2=>?_
    · have h3:x = y:=of_decide_eq_true h2
      simp only [go_sem,h2,hwi]
      refine ⟨_,by omega,i + 1,by omega,rfl,?_,rfl,rfl⟩
      rw [← hv,h3];simp
    · have h3:x ≠ y:=of_decide_eq_false h2
      have hf:decide (a = b) = false:=by rw [← hv];simp [h3]
      simp only [go_sem,h2,hf]
  · have hlt:a.length ≤ i:=by simpa using h
    have hf:decide (a = b) = true:=by rw [← hv,List.drop_of_length_le hlt,List.drop_of_length_le (by omega)];rfl
    simp only [go_sem,h,hf]
theorem sameImg_c (m:Img) (hm:m.fit) (H:St):CallsA prg 10 [imgA m,imgA m] H (.d (.bool true)) H:=by
  have h1:=fun H=>WCall_of (ints_c m.first m.first (by have:=hm.first;omega) (by have:=hm.first;omega) H)
  have h2:=fun H=>WCall_of (sameIns_c m.step m.step hm.step hm.step H)
  have h3:=fun H=>WCall_of (sameIns_c m.move m.move hm.move hm.move H)
  have d1:decide (m.first = m.first) = true:=decide_eq_true rfl
  have d2:decide (m.step = m.step) = true:=decide_eq_true rfl
  have d3:decide (m.move = m.move) = true:=decide_eq_true rfl
  have hce:cellsEq [.i,.i,.i,.i,.i] [.int .i64 m.frame.slots,.int .i64 m.frame.old,.int .i64 m.frame.new,.int .i64 m.frame.ins,.int .i64 m.frame.outs] [.int .i64 m.frame.slots,.int .i64 m.frame.old,.int .i64 m.frame.new,.int .i64 m.frame.ins,.int .i64 m.frame.outs] = some true:=by
    simp [cellsEq,scalarEq]
  rw [d1] at h1
  rw [d2] at h2
  rw [d3] at h3
  unfold imgA encImg
  simp only [dcells_cons,dcells_nil]
  refine calls_of2 rfl f10 ?_
  obtain ⟨B,T,lw⟩:=H
  simp only [go_sem,c10,h1,h2,h3,hce,beq_self_eq_true]
end Am
namespace Am
open Go C
def At (l:List Tok) (i:Nat) (ts:List Tok):Prop:=(l.drop i).map Tok.z = ts
theorem aT_step {l:List Tok} {i:Nat} {t:Tok} {ts:List Tok} (h:At l i (t :: ts)):At l (i + 1) ts ∧ ∃ u,l[i]? = some u ∧ u.z = t:=by
  unfold At at h ⊢
  cases hd:l.drop i with
  | nil=>rw [hd] at h;cases h
  | cons u r=>
    rw [hd] at h
    simp only [List.map_cons,List.cons.injEq] at h
    refine ⟨?_,u,?_,h.1⟩
    · rw [← List.drop_drop,hd];exact h.2
    · rw [← List.head?_drop,hd];rfl
theorem aT_app {l:List Tok} {a:List Tok}:∀ {i:Nat} {ts:List Tok},At l i (a ++ ts)→At l (i + a.length) ts:=by
  induction a with
  | nil=>intro i ts h;exact h
  | cons t a ih=>
    intro i ts h
    have:=ih (aT_step h).1
    rw [List.length_cons,show i + (a.length + 1) = i + 1 + a.length by omega]
    exact this
theorem aT_nil {l:List Tok} {i:Nat} (h:At l i []):l[i]? = none:=by
  unfold At at h
  rw [List.map_eq_nil_iff,List.drop_eq_nil_iff] at h
  exact List.getElem?_eq_none h
def seesT (w:Str) (t:Tok):Bool:=(t.kind == 3 || t.kind == 4) && t.text == w
def seesL (w:Str):List Tok→Bool
  | []=>false
  | t :: _=>seesT w t
theorem sees_at {l:List Tok} {i:Nat} {ts:List Tok} (h:At l i ts) (w:Str):seesP l w ⟨i,false⟩ = seesL w ts:=by
  unfold seesP nextP
  cases ts with
  | nil=>simp [aT_nil h,seesL]
  | cons t ts=>
    obtain ⟨_,u,h1,h2⟩:=aT_step h
    simp only [Bool.false_eq_true,if_false,h1,seesL,← h2]
    rfl
theorem take_at {l:List Tok} {i:Nat} {w:Str} (h:seesP l w ⟨i,false⟩ = true):takeP l w ⟨i,false⟩ = ⟨i + 1,false⟩:=by
  unfold takeP;rw [if_pos h]
theorem need_at {l:List Tok} {i:Nat} {w:Str} (h:seesP l w ⟨i,false⟩ = true):needP l w ⟨i,false⟩ = ⟨i + 1,false⟩:=by
  unfold needP;rw [if_pos h]
theorem is_at {l:List Tok} {i:Nat} {t:Tok} {ts:List Tok} (h:At l i (t :: ts)) (k:Int):isP l k ⟨i,false⟩ = (t.kind == k):=by
  obtain ⟨_,u,h1,h2⟩:=aT_step h
  unfold isP nextP
  simp only [Bool.false_eq_true,if_false,h1,← h2]
  rfl
theorem token_at {l:List Tok} {i:Nat} {t:Tok} {ts:List Tok} (h:At l i (t :: ts)) {k:Int} (hk:t.kind = k) :
    tokenP l k ⟨i,false⟩ = ⟨i + 1,false⟩ ∧ (tokenT l k ⟨i,false⟩).text = t.text ∧ (tokenT l k ⟨i,false⟩).n = t.n:=by
  have h3:=is_at h k
  obtain ⟨_,u,h1,h2⟩:=aT_step h
  rw [hk,beq_self_eq_true] at h3
  unfold tokenP tokenT
  rw [if_pos h3,if_pos h3]
  unfold nextP
  simp only [Bool.false_eq_true,if_false,h1,Option.getD_some,← h2]
  exact ⟨trivial,rfl,rfl⟩
theorem name_at {l:List Tok} {i:Nat} {nm:Str} {ts:List Tok} (h:At l i (tName nm :: ts)):tokenP l 1 ⟨i,false⟩ = ⟨i + 1,false⟩ ∧ nameT l ⟨i,false⟩ = nm:=by
  obtain ⟨h1,h2,_⟩:=token_at h (k:=1) rfl
  exact ⟨h1,h2⟩
theorem any_at {l:List Tok} {i:Nat} {ts:List Tok} (h:At l i ts):∀ ws:List Str,anyP l ws ⟨i,false⟩ = match ws.find? (fun w=>seesL w ts) with | some w=>w | none=>[]:=by
  intro ws
  induction ws with
  | nil=>rfl
  | cons w ws ih=>
    simp only [anyP,sees_at h w,List.find?_cons]
    cases seesL w ts with
    | true=>rfl
    | false=>simpa using ih
def noOps (k:Nat) (ts:List Tok):Prop:=∀ j:Nat,k ≤ j→j < 6→(marksS j).find? (fun w=>seesL w ts) = none
def noWhen (ts:List Tok):Prop:=seesL wWhen ts = false ∧ seesL wUnless ts = false
def closes (ts:List Tok):Prop:=noOps 0 ts ∧ noWhen ts ∧ seesL wArrow ts = false
theorem closes_of {t:Tok} (ts:List Tok) (h:t ∈ [tMark wClose,tMark wSemi,tWord wThen,tWord wElse]):closes (t :: ts):=by
  have key:∀ t ∈ [tMark wClose,tMark wSemi,tWord wThen,tWord wElse],(∀ j:Fin 6,(marksS (j.val:Int)).find? (fun w=>seesT w t) = none) ∧ seesT wWhen t = false ∧ seesT wUnless t = false ∧ seesT wArrow t = false:=by decide
  obtain ⟨h1,h2,h3,h4⟩:=key t h
  exact ⟨fun j _ hj=>h1 ⟨j,hj⟩,⟨h2,h3⟩,h4⟩
theorem noOps.more {k j:Nat} {ts:List Tok} (h:noOps k ts) (hkj:k ≤ j):noOps j ts:=fun i h1 h2=>h i (by omega) h2
def Pd (l:List Tok) (t:PT) (i:Nat) (x:Ex) (j:Nat):Prop:=∃ n,pF l n t ⟨i,false⟩ = some (x,⟨j,false⟩)
theorem nF {b:Bool} (h:b = false):¬ b = true:=by rw [h];decide
theorem bindS {α β:Type} {x:Option α} {a:α} {f:α→Option β} (h:x = some a):(x >>= f) = f a:=by rw [h];rfl
theorem loop_stop {l:List Tok} {k i:Nat} {x:Ex} {ts:List Tok} (h:At l i ts) (hn:(marksS k).find? (fun w=>seesL w ts) = none):Pd l (.loop k x) i x i:=by
  refine ⟨1,?_⟩
  show (if anyP l (marksS k) ⟨i,false⟩ = [] then _ else _) = _
  rw [any_at h,hn]
  rfl
theorem level_up {l:List Tok} {i j:Nat} {x:Ex} {ts:List Tok} (h:At l j ts):∀ (m k:Nat),k + m ≤ 6→Pd l (.level (k + m)) i x j→(∀ q,k ≤ q→q < k + m→(marksS q).find? (fun w=>seesL w ts) = none)→Pd l (.level k) i x j:=by
  intro m
  induction m with
  | zero=>intro k _ h1 _;exact h1
  | succ m ih=>
    intro k hk h1 hq
    obtain ⟨a,ha⟩:=ih (k + 1) (by omega) (by rw [show k + 1 + m = k + (m + 1) by omega];exact h1) (fun q h2 h3=>hq q (by omega) (by omega))
    obtain ⟨b,hb⟩:=loop_stop (x:=x) h (hq k (by omega) (by omega))
    refine ⟨max a b + 1,?_⟩
    simp only [pF]
    rw [if_neg (by omega),bindS (pF_le (Nat.le_max_left a b) ha)]
    exact pF_le (Nat.le_max_right a b) hb
theorem unary_level {l:List Tok} {i j:Nat} {x:Ex} (h:Pd l .unary i x j):Pd l (.level 6) i x j:=by
  obtain ⟨n,h⟩:=h
  exact ⟨n + 1,by simp only [pF,if_true];exact h⟩
theorem level_expr {l:List Tok} {i j:Nat} {x:Ex} {ts:List Tok} (h:At l j ts) (h1:Pd l (.level 0) i x j) (h2:seesL wArrow ts = false):Pd l .expr i x j:=by
  obtain ⟨n,h1⟩:=h1
  refine ⟨n + 1,?_⟩
  simp only [pF]
  rw [bindS h1]
  simp only [sees_at h,h2,Bool.false_eq_true,if_false]
  rfl
theorem unary_expr {l:List Tok} {i j:Nat} {x:Ex} {ts:List Tok} (h:At l j ts) (h1:Pd l .unary i x j) (h2:closes ts):Pd l .expr i x j:=
  level_expr h (level_up h 6 0 (by omega) (unary_level h1) fun q _ hq=>h2.1 q (by omega) (by omega)) h2.2.2
def softT (ts:List Tok):Prop:=seesL wMinus ts = false ∧ seesL wNot ts = false
theorem factor_unary {l:List Tok} {i j:Nat} {x:Ex} {ts:List Tok} (h:At l i ts) (hs:softT ts) (h1:Pd l .factor i x j):Pd l .unary i x j:=by
  obtain ⟨n,h1⟩:=h1
  refine ⟨n + 1,?_⟩
  simp only [pF,sees_at h,hs.1,hs.2,Bool.false_eq_true,if_false]
  exact h1
theorem fl_stop {l:List Tok} {i:Nat} {x:Ex} {ts:List Tok} (h:At l i ts) (hn:noWhen ts):Pd l (.fl x) i x i:=by
  refine ⟨1,?_⟩
  simp only [pF,sees_at h,hn.1,hn.2,Bool.false_eq_true,if_false]
  rfl
theorem atom_factor {l:List Tok} {i j k:Nat} {x y:Ex} (h1:Pd l .atom i x j) (h2:Pd l (.fl x) j y k):Pd l .factor i y k:=by
  obtain ⟨a,h1⟩:=h1
  obtain ⟨b,h2⟩:=h2
  refine ⟨max a b + 1,?_⟩
  simp only [pF]
  rw [bindS (pF_le (Nat.le_max_left a b) h1)]
  exact pF_le (Nat.le_max_right a b) h2
theorem soft_part {x:Ex} (h:Form x):∀ ts,softT (partT x ++ ts):=by
  induction h with
  | num n h1 h2=>intro ts;rw [partT_atom rfl,showT_num];exact ⟨rfl,rfl⟩
  | bool n h=>intro ts;rw [partT_atom rfl,showT_bool];split <;> exact ⟨rfl,rfl⟩
  | var nm h=>intro ts;rw [partT_atom rfl,showT_var];exact ⟨rfl,rfl⟩
  | when_ nm a h ha ih=>intro ts;rw [partT_atom rfl,showT_when,List.append_assoc];exact ih _
  | unless_ nm a h ha ih=>intro ts;rw [partT_atom rfl,showT_unless,List.append_assoc];exact ih _
  | _=>intro ts;rw [partT_not rfl];exact ⟨rfl,rfl⟩
theorem part_noWhen {x:Ex} (h:Form x):∀ ts,noWhen (partT x ++ ts):=by
  induction h with
  | num n h1 h2=>intro ts;rw [partT_atom rfl,showT_num];exact ⟨rfl,rfl⟩
  | bool n h=>intro ts;rw [partT_atom rfl,showT_bool];split <;> exact ⟨rfl,rfl⟩
  | var nm h=>intro ts;rw [partT_atom rfl,showT_var];exact ⟨rfl,rfl⟩
  | when_ nm a h ha ih=>intro ts;rw [partT_atom rfl,showT_when,List.append_assoc];exact ih _
  | unless_ nm a h ha ih=>intro ts;rw [partT_atom rfl,showT_unless,List.append_assoc];exact ih _
  | _=>intro ts;rw [partT_not rfl];exact ⟨rfl,rfl⟩
def RdE (x:Ex):Prop:=∀ l i ts,At l i (showT x ++ ts)→closes ts→Pd l .expr i x (i + (showT x).length)
def RdP (x:Ex):Prop:=∀ l i ts y k,At l i (partT x ++ ts)→Pd l (.fl x) (i + (partT x).length) y k→Pd l .factor i y k
theorem rdP_brackets {x:Ex} (hk:atomK x.kind = false) (h:RdE x):RdP x:=by
  intro l i ts y k hat hfl
  rw [partT_not hk] at hat hfl
  have h0:At l i (tMark wOpen :: (showT x ++ tMark wClose :: ts)):=by simpa using hat
  obtain ⟨h1,_⟩:=aT_step h0
  have h2:=aT_app h1
  obtain ⟨n,he⟩:=h l (i + 1) (tMark wClose :: ts) h1 (closes_of ts (by decide))
  refine atom_factor (x:=x) (j:=i + 1 + (showT x).length + 1) ⟨n + 1,?_⟩ (by
    have:i + ([tMark wOpen] ++ showT x ++ [tMark wClose]).length = i + 1 + (showT x).length + 1:=by simp;omega
    rw [this] at hfl;exact hfl)
  have hs:seesP l [40] ⟨i,false⟩ = true:=by rw [sees_at h0];rfl
  have hsc:seesP l [41] ⟨i + 1 + (showT x).length,false⟩ = true:=by rw [sees_at h2];rfl
  simp only [pF,is_at h0,sees_at h0]
  rw [if_neg (by exact nF rfl),if_neg (by exact nF rfl),if_neg (by exact nF rfl),if_pos (by rfl),take_at hs,bindS he]
  simp only [need_at hsc]
  rfl
theorem rdP_unary {x:Ex} (hf:Form x) (h:RdP x) {l:List Tok} {i:Nat} {ts:List Tok} (hat:At l i (partT x ++ ts)) (hn:noWhen ts):Pd l .unary i x (i + (partT x).length):=
  factor_unary hat (soft_part hf ts) (h l i ts x _ hat (fl_stop (aT_app hat) hn))
theorem rdP_factor {x:Ex} (h:RdP x) {l:List Tok} {i:Nat} {ts:List Tok} (hat:At l i (partT x ++ ts)) (hn:noWhen ts):Pd l .factor i x (i + (partT x).length):=
  h l i ts x _ hat (fl_stop (aT_app hat) hn)
theorem rdP_level {x:Ex} (hf:Form x) (h:RdP x) {l:List Tok} {i k:Nat} {ts:List Tok} (hk:k ≤ 6) (hat:At l i (partT x ++ ts)) (hn:noWhen ts) (ho:noOps k ts):Pd l (.level k) i x (i + (partT x).length):=by
  have:=level_up (k:=k) (aT_app hat) (6 - k) (by omega) (x:=x) (i:=i)
  rw [show k + (6 - k) = 6 by omega] at this
  exact this (unary_level (rdP_unary hf h hat hn)) fun q h1 h2=>ho q h1 h2
theorem rdE_part {x:Ex} (hk:atomK x.kind = true) (hf:Form x) (h:RdP x):RdE x:=by
  intro l i ts hat hc
  rw [← partT_atom hk] at hat ⊢
  exact unary_expr (aT_app hat) (rdP_unary hf h hat hc.2.1) hc
def levOf (n:Int):Nat:=if n = 9 ∨ n = 10 then 0 else if n = 8 then 1 else if 11 ≤ n then 2 else if n = 6 ∨ n = 7 then 3 else if n = 1 ∨ n = 2 then 4 else 5
theorem op_facts (n:Int) (h1:1 ≤ n) (h2:n ≤ 16):levOf n < 6 ∧ (∀ ts,noOps (levOf n + 1) (tMark (markOfS n) :: ts)) ∧ (∀ ts,noWhen (tMark (markOfS n) :: ts)) ∧
    (∀ ts,(marksS (levOf n)).find? (fun w=>seesL w (tMark (markOfS n) :: ts)) = some (markOfS n)) ∧ opOfS (markOfS n) = n ∧ markOfS n ≠ []:=by
  have key:∀ q:Fin 16,levOf (q.val + 1) < 6 ∧ (∀ j:Fin 6,levOf (q.val + 1) + 1 ≤ j.val→(marksS j.val).find? (fun w=>seesT w (tMark (markOfS (q.val + 1)))) = none) ∧
    (seesT wWhen (tMark (markOfS (q.val + 1))) = false ∧ seesT wUnless (tMark (markOfS (q.val + 1))) = false) ∧ (marksS (levOf (q.val + 1))).find? (fun w=>seesT w (tMark (markOfS (q.val + 1)))) = some (markOfS (q.val + 1)) ∧ opOfS (markOfS (q.val + 1)) = q.val + 1 ∧ markOfS (q.val + 1) ≠ []:=by decide
  have:=key ⟨(n - 1).toNat,by omega⟩
  rw [show (((n - 1).toNat:Nat):Int) + 1 = n by omega] at this
  obtain ⟨a1,a2,a3,a4,a5,a6⟩:=this
  exact ⟨a1,fun ts j hj hj2=>a2 ⟨j,hj2⟩ hj,fun ts=>a3,fun ts=>a4,a5,a6⟩
theorem read_show {x:Ex} (h:Form x):RdE x ∧ RdP x:=by
  induction h with
  | num n h1 h2=>
    have hf:=Form.num n h1 h2
    have hp:RdP (.mk 1 n [] []):=by
      intro l i ts y k hat hfl
      rw [partT_atom rfl,showT_num] at hat hfl
      refine atom_factor ⟨1,?_⟩ hfl
      obtain ⟨e1,_,e3⟩:=token_at hat (k:=2) rfl
      simp only [pF,is_at hat]
      rw [if_pos (by rfl),e1,e3]
      rfl
    exact ⟨rdE_part rfl hf hp,hp⟩
  | bool n h=>
    have hf:=Form.bool n h
    have hp:RdP (.mk 2 n [] []):=by
      intro l i ts y k hat hfl
      rw [partT_atom rfl,showT_bool] at hat hfl
      refine atom_factor ⟨1,?_⟩ hfl
      rcases h with rfl | rfl
      · have hs:seesP l wFalse ⟨i,false⟩ = true:=by rw [sees_at hat];rfl
        simp only [pF,is_at hat,sees_at hat]
        rw [if_neg (by exact nF rfl),if_neg (by exact nF rfl),if_pos (by rfl),take_at hs]
        rfl
      · have hs:seesP l wTrue ⟨i,false⟩ = true:=by rw [sees_at hat];rfl
        simp only [pF,is_at hat,sees_at hat]
        rw [if_neg (by exact nF rfl),if_pos (by rfl),take_at hs]
        rfl
    exact ⟨rdE_part rfl hf hp,hp⟩
  | var nm h=>
    have hf:=Form.var nm h
    have hp:RdP (.mk 3 0 nm []):=by
      intro l i ts y k hat hfl
      rw [partT_atom rfl,showT_var] at hat hfl
      refine atom_factor ⟨1,?_⟩ hfl
      obtain ⟨e1,e2⟩:=name_at hat
      simp only [pF,is_at hat,sees_at hat]
      rw [if_neg (by exact nF rfl),if_neg (by exact nF rfl),if_neg (by exact nF rfl),if_neg (by exact nF rfl),if_neg (by exact nF rfl),if_neg (by exact nF rfl),e1,e2]
      rfl
    exact ⟨rdE_part rfl hf hp,hp⟩
  | un n a h ha ih=>
    have he:RdE (.mk 4 n [] [a]):=by
      intro l i ts hat hc
      have hlen:i + (showT (.mk 4 n [] [a])).length = i + 1 + (partT a).length:=by rw [showT_un];simp;omega
      have hat':=hat
      rw [showT_un,List.cons_append] at hat
      obtain ⟨h1,_⟩:=aT_step hat
      obtain ⟨m,hu⟩:=rdP_unary ha ih.2 h1 hc.2.1
      have hend:At l (i + (showT (.mk 4 n [] [a])).length) ts:=aT_app hat'
      refine unary_expr hend ?_ hc
      rw [hlen]
      refine ⟨m + 1,?_⟩
      rcases h with rfl | rfl
      · have hs:seesP l wMinus ⟨i,false⟩ = true:=by rw [sees_at hat];rfl
        simp only [pF,hs,if_true,take_at hs]
        rw [bindS hu];rfl
      · have hs:seesP l wNot ⟨i,false⟩ = true:=by rw [sees_at hat];rfl
        have hs0:seesP l wMinus ⟨i,false⟩ = false:=by rw [sees_at hat];rfl
        simp only [pF,hs,hs0,if_true,Bool.false_eq_true,if_false,take_at hs]
        rw [bindS hu];rfl
    exact ⟨he,rdP_brackets rfl he⟩
  | bin n a b h1 h2 ha hb iha ihb=>
    obtain ⟨o1,o2,o3,o4,o5,o6⟩:=op_facts n h1 h2
    have he:RdE (.mk 5 n [] [a,b]):=by
      intro l i ts hat hc
      have hlen:i + (showT (.mk 5 n [] [a,b])).length = i + (partT a).length + 1 + (partT b).length:=by rw [showT_bin];simp;omega
      have hend:At l (i + (showT (.mk 5 n [] [a,b])).length) ts:=aT_app hat
      rw [hlen] at hend ⊢
      rw [showT_bin,List.append_assoc,List.cons_append] at hat
      have hm:=aT_app hat
      obtain ⟨hb1,_⟩:=aT_step hm
      obtain ⟨p,hp⟩:=rdP_level ha iha.2 (k:=levOf n + 1) (by omega) hat (o3 _) (o2 _)
      obtain ⟨q,hq⟩:=rdP_level hb ihb.2 (k:=levOf n + 1) (by omega) hb1 hc.2.1 (hc.1.more (by omega))
      have hany:anyP l (marksS (levOf n)) ⟨i + (partT a).length,false⟩ = markOfS n:=by rw [any_at hm,o4]
      have hanyS:anyS l (marksS (levOf n)) ⟨i + (partT a).length,false⟩ = ⟨i + (partT a).length + 1,false⟩:=by unfold anyS;rw [hany,if_neg o6]
      obtain ⟨r,hr⟩:=loop_stop (k:=levOf n) (x:=.mk 5 n [] [a,b]) hend (hc.1 (levOf n) (by omega) o1)
      have hl:Pd l (.level (levOf n)) i (.mk 5 n [] [a,b]) (i + (partT a).length + 1 + (partT b).length):=by
        refine ⟨max p (max q r + 1) + 1,?_⟩
        simp only [pF]
        rw [if_neg (by omega),bindS (pF_le (Nat.le_max_left p (max q r + 1)) hp)]
        refine pF_le (Nat.le_max_right p (max q r + 1)) ?_
        simp only [pF]
        rw [hany,if_neg o6,hanyS,bindS (pF_le (Nat.le_max_left q r) hq),o5]
        dsimp only
        split
        · rfl
        · exact pF_le (Nat.le_max_right q r) hr
      refine level_expr hend ?_ hc.2.2
      have:=level_up (k:=0) (m:=levOf n) (i:=i) (x:=.mk 5 n [] [a,b]) hend (by omega)
      rw [Nat.zero_add] at this
      exact this hl fun s _ hs=>hc.1 s (by omega) (by omega)
    exact ⟨he,rdP_brackets rfl he⟩
  | cond a b c ha hb hc' iha ihb ihc=>
    have he:RdE (.mk 6 0 [] [a,b,c]):=by
      intro l i ts hat hc
      have hend:=aT_app hat
      have hlen:i + (showT (.mk 6 0 [] [a,b,c])).length = i + 1 + (showT a).length + 1 + (showT b).length + 1 + (showT c).length:=by rw [showT_cond];simp;omega
      rw [hlen] at hend ⊢
      rw [showT_cond] at hat
      have h0:At l i (tWord wIf :: (showT a ++ tWord wThen :: (showT b ++ tWord wElse :: (showT c ++ ts)))):=by simpa using hat
      obtain ⟨h1,_⟩:=aT_step h0
      have h2:=aT_app h1
      obtain ⟨h3,_⟩:=aT_step h2
      have h4:=aT_app h3
      obtain ⟨h5,_⟩:=aT_step h4
      obtain ⟨p,hp⟩:=iha.1 l _ _ h1 (closes_of _ (by decide))
      obtain ⟨q,hq⟩:=ihb.1 l _ _ h3 (closes_of _ (by decide))
      obtain ⟨r,hr⟩:=ihc.1 l _ _ h5 hc
      have s0:seesP l wIf ⟨i,false⟩ = true:=by rw [sees_at h0];rfl
      have s1:seesP l wThen ⟨i + 1 + (showT a).length,false⟩ = true:=by rw [sees_at h2];rfl
      have s2:seesP l wElse ⟨i + 1 + (showT a).length + 1 + (showT b).length,false⟩ = true:=by rw [sees_at h4];rfl
      refine unary_expr hend (factor_unary h0 ⟨rfl,rfl⟩ (atom_factor ⟨max p (max q r) + 1,?_⟩ (fl_stop hend hc.2.1))) hc
      simp only [pF,is_at h0,sees_at h0]
      rw [if_neg (by exact nF rfl),if_neg (by exact nF rfl),if_neg (by exact nF rfl),if_neg (by exact nF rfl),if_pos (by rfl),take_at s0,bindS (pF_le (Nat.le_max_left p (max q r)) hp)]
      simp only [need_at s1]
      rw [bindS (pF_le (Nat.le_trans (Nat.le_max_left q r) (Nat.le_max_right p _)) hq)]
      simp only [need_at s2]
      rw [bindS (pF_le (Nat.le_trans (Nat.le_max_right q r) (Nat.le_max_right p _)) hr)]
      rfl
    exact ⟨he,rdP_brackets rfl he⟩
  | arrow a b ha hb iha ihb=>
    have he:RdE (.mk 7 0 [] [a,b]):=by
      intro l i ts hat hc
      have hlen:i + (showT (.mk 7 0 [] [a,b])).length = i + (partT a).length + 1 + (partT b).length:=by rw [showT_arrow];simp;omega
      have hend:=aT_app hat
      rw [hlen] at hend ⊢
      rw [showT_arrow,List.append_assoc,List.cons_append] at hat
      have hm:=aT_app hat
      obtain ⟨hb1,_⟩:=aT_step hm
      have hca:noOps 0 (tMark wArrow :: (partT b ++ ts)) ∧ noWhen (tMark wArrow :: (partT b ++ ts)):=by
        have key:(∀ j:Fin 6,(marksS (j.val:Int)).find? (fun w=>seesT w (tMark wArrow)) = none) ∧ seesT wWhen (tMark wArrow) = false ∧ seesT wUnless (tMark wArrow) = false:=by decide
        exact ⟨fun j _ hj=>key.1 ⟨j,hj⟩,key.2⟩
      obtain ⟨p,hp⟩:=rdP_level ha iha.2 (k:=0) (by omega) hat hca.2 hca.1
      obtain ⟨q,hq⟩:=unary_expr hend (rdP_unary hb ihb.2 hb1 hc.2.1) hc
      have s0:seesP l wArrow ⟨i + (partT a).length,false⟩ = true:=by rw [sees_at hm];rfl
      refine ⟨max p q + 1,?_⟩
      simp only [pF]
      rw [bindS (pF_le (Nat.le_max_left p q) hp)]
      simp only [s0,if_true,take_at s0]
      rw [bindS (pF_le (Nat.le_max_right p q) hq)]
      rfl
    exact ⟨he,rdP_brackets rfl he⟩
  | when_ nm a h ha ih=>
    have hf:=Form.when_ nm a h ha
    have hp:RdP (.mk 8 0 nm [a]):=by
      intro l i ts y k hat hfl
      rw [partT_atom rfl,showT_when] at hat hfl
      rw [List.append_assoc] at hat
      have h1:=aT_app hat
      obtain ⟨h2,_⟩:=aT_step h1
      obtain ⟨n,hn⟩:=hfl
      refine ih.2 l i _ y k hat ⟨n + 1,?_⟩
      have hs:seesP l wWhen ⟨i + (partT a).length,false⟩ = true:=by rw [sees_at h1];rfl
      obtain ⟨e1,e2⟩:=name_at h2
      simp only [pF,hs,if_true,take_at hs,e1,e2]
      rw [← hn]
      congr 2
      simp;omega
    exact ⟨rdE_part rfl hf hp,hp⟩
  | unless_ nm a h ha ih=>
    have hf:=Form.unless_ nm a h ha
    have hp:RdP (.mk 9 0 nm [a]):=by
      intro l i ts y k hat hfl
      rw [partT_atom rfl,showT_unless] at hat hfl
      rw [List.append_assoc] at hat
      have h1:=aT_app hat
      obtain ⟨h2,_⟩:=aT_step h1
      obtain ⟨n,hn⟩:=hfl
      refine ih.2 l i _ y k hat ⟨n + 1,?_⟩
      have hs0:seesP l wWhen ⟨i + (partT a).length,false⟩ = false:=by rw [sees_at h1];rfl
      have hs:seesP l wUnless ⟨i + (partT a).length,false⟩ = true:=by rw [sees_at h1];rfl
      obtain ⟨e1,e2⟩:=name_at h2
      simp only [pF,hs,hs0,Bool.false_eq_true,if_false,if_true,take_at hs,e1,e2]
      rw [← hn]
      congr 2
      simp;omega
    exact ⟨rdE_part rfl hf hp,hp⟩
  | merge nm a b h ha hb iha ihb=>
    have he:RdE (.mk 10 0 nm [a,b]):=by
      intro l i ts hat hc
      have hend:=aT_app hat
      have hlen:i + (showT (.mk 10 0 nm [a,b])).length = i + 1 + 1 + (partT a).length + (partT b).length:=by rw [showT_merge];simp;omega
      rw [hlen] at hend ⊢
      rw [showT_merge] at hat
      have h0:At l i (tWord wMerge :: tName nm :: (partT a ++ (partT b ++ ts))):=by simpa using hat
      obtain ⟨h1,_⟩:=aT_step h0
      obtain ⟨h2,_⟩:=aT_step h1
      have h3:=aT_app h2
      obtain ⟨e1,e2⟩:=name_at h1
      have hnw:noWhen (partT b ++ ts):=part_noWhen hb ts
      obtain ⟨p,hp⟩:=rdP_factor iha.2 h2 hnw
      obtain ⟨q,hq⟩:=rdP_factor ihb.2 h3 hc.2.1
      have s0:seesP l wMerge ⟨i,false⟩ = true:=by rw [sees_at h0];rfl
      refine unary_expr hend (factor_unary h0 ⟨rfl,rfl⟩ (atom_factor ⟨max p q + 1,?_⟩ (fl_stop hend hc.2.1))) hc
      simp only [pF,is_at h0,sees_at h0]
      rw [if_neg (by exact nF rfl),if_neg (by exact nF rfl),if_neg (by exact nF rfl),if_neg (by exact nF rfl),if_neg (by exact nF rfl),if_pos (by rfl)]
      simp only [take_at s0,e1,e2]
      rw [bindS (pF_le (Nat.le_max_left p q) hp),bindS (pF_le (Nat.le_max_right p q) hq)]
      rfl
    exact ⟨he,rdP_brackets rfl he⟩
end Am
