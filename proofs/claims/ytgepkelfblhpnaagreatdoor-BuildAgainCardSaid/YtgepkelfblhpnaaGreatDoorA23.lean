/- A part of the proof of BuildAgain: no condition of its own. Whence: AmTree3. -/
import Derived.Test.YtgepkelfblhpnaaGreatDoorA22
set_option linter.all false
namespace Am
open Go C
inductive PT where
  | expr
  | level (k:Nat)
  | loop (k:Nat) (a:Ex)
  | unary
  | factor
  | fl (a:Ex)
  | atom
abbrev wMinus:Str:=[45]
abbrev wNot:Str:=[110,111,116]
abbrev wArrow:Str:=[45,62]
abbrev wWhen:Str:=[119,104,101,110]
abbrev wUnless:Str:=[117,110,108,101,115,115]
abbrev wTrue:Str:=[116,114,117,101]
abbrev wFalse:Str:=[102,97,108,115,101]
abbrev wIf:Str:=[105,102]
abbrev wThen:Str:=[116,104,101,110]
abbrev wElse:Str:=[101,108,115,101]
abbrev wMerge:Str:=[109,101,114,103,101]
def pF (l:List Tok):Nat→PT→PS→Option (Ex × PS)
  | 0,_,_=>none
  | n + 1,.expr,s=>do
    let (a,s1) ← pF l n (.level 0) s
    if seesP l wArrow s1 then do
      let (b,s2) ← pF l n .expr (takeP l wArrow s1)
      pure (.mk 7 0 [] [a,b],s2)
    else pure (a,s1)
  | n + 1,.level k,s=>if k = 6 then pF l n .unary s else do
    let (a,s1) ← pF l n (.level (k + 1)) s
    pF l n (.loop k a) s1
  | n + 1,.loop k a,s=>if anyP l (marksS k) s = [] then pure (a,s) else do
    let (b,s2) ← pF l n (.level (k + 1)) (anyS l (marksS k) s)
    let c:=Ex.mk 5 (opOfS (anyP l (marksS k) s)) [] [a,b]
    if k = 2 then pure (c,s2) else pF l n (.loop k c) s2
  | n + 1,.unary,s=>if seesP l wMinus s then do
      let (a,s2) ← pF l n .unary (takeP l wMinus s)
      pure (.mk 4 1 [] [a],s2)
    else if seesP l wNot s then do
      let (a,s2) ← pF l n .unary (takeP l wNot s)
      pure (.mk 4 2 [] [a],s2)
    else pF l n .factor s
  | n + 1,.factor,s=>do
    let (a,s1) ← pF l n .atom s
    pF l n (.fl a) s1
  | n + 1,.fl a,s=>if seesP l wWhen s then pF l n (.fl (.mk 8 0 (nameT l (takeP l wWhen s)) [a])) (tokenP l 1 (takeP l wWhen s))
    else if seesP l wUnless s then pF l n (.fl (.mk 9 0 (nameT l (takeP l wUnless s)) [a])) (tokenP l 1 (takeP l wUnless s))
    else pure (a,s)
  | n + 1,.atom,s=>if isP l 2 s then pure (.mk 1 (tokenT l 2 s).n [] [],tokenP l 2 s)
    else if seesP l wTrue s then pure (.mk 2 1 [] [],takeP l wTrue s)
    else if seesP l wFalse s then pure (.mk 2 0 [] [],takeP l wFalse s)
    else if seesP l [40] s then do
      let (a,s1) ← pF l n .expr (takeP l [40] s)
      pure (a,needP l [41] s1)
    else if seesP l wIf s then do
      let (a,s1) ← pF l n .expr (takeP l wIf s)
      let (b,s2) ← pF l n .expr (needP l wThen s1)
      let (c,s3) ← pF l n .expr (needP l wElse s2)
      pure (.mk 6 0 [] [a,b,c],s3)
    else if seesP l wMerge s then do
      let s0:=takeP l wMerge s
      let (a,s1) ← pF l n .factor (tokenP l 1 s0)
      let (b,s2) ← pF l n .factor s1
      pure (.mk 10 0 (nameT l s0) [a,b],s2)
    else pure (.mk 3 0 (nameT l s) [],tokenP l 1 s)
def exV (x:Ex):HV:=.agg (dcells (encE x))
def PTouch (l:List Tok) (o:Nat):PT→PS→Ex→PS→Prop
  | .expr,s,x,s'=>Touch 66 [.ref o 0] l o s (exV x) s'
  | .level k,s,x,s'=>Touch 142 [.ref o 0,.d (.int .i64 k)] l o s (exV x) s'
  | .unary,s,x,s'=>Touch 192 [.ref o 0] l o s (exV x) s'
  | .factor,s,x,s'=>Touch 229 [.ref o 0] l o s (exV x) s'
  | .atom,s,x,s'=>Touch 253 [.ref o 0] l o s (exV x) s'
  | _,_,_,_=>True
def PAll (l:List Tok) (o:Nat) (n:Nat):Prop:=∀ m,m ≤ n→∀ t s x s',pF l m t s = some (x,s')→PTouch l o t s x s'
theorem PAll.get {l:List Tok} {o n:Nat} (ih:PAll l o n) {t:PT} {s s':PS} {x:Ex} (h:pF l n t s = some (x,s')):PTouch l o t s x s':=ih n (Nat.le_refl _) _ _ _ _ h
theorem expr_t {l:List Tok} (hl:l.length ≤ 1000000) (o n:Nat) (ih:PAll l o n) (s:PS) (x:Ex) (s':PS) (h:pF l (n + 1) .expr s = some (x,s')):Touch 66 [.ref o 0] l o s (exV x) s':=by
  intro B T lw ho
  refine calls_of2 rfl f66 ?_
  simp only [pF,Option.bind_eq_bind,Option.bind_eq_some_iff] at h
  obtain ⟨⟨a,s1⟩,h1,h⟩:=h
  have c1:=@Touch.wx _ _ _ _ _ _ _ (show Touch 142 _ _ _ _ _ _ from ih.get h1)
  have c1w:=@Touch.w _ _ _ _ _ _ _ (show Touch 142 _ _ _ _ _ _ from ih.get h1)
  simp only [Int.cast_ofNat_Int] at c1
  have c2:=@Touch.wx _ _ _ _ _ _ _ (take_t hl o wArrow s1)
  have c2w:=@Touch.w _ _ _ _ _ _ _ (take_t hl o wArrow s1)
  simp only [go_sem,c66,set_at ho,set_at_app ho,set_app_set ho,ho,c1,c2,exV]
  refine WG_intro (fun hs=>?_) fun hs=>?_
  · simp only [hs,if_true,Option.bind_eq_some_iff] at h
    obtain ⟨⟨b,s2⟩,h2,h⟩:=h
    cases h
    have c3:=@Touch.wx _ _ _ _ _ _ _ (show Touch 66 _ _ _ _ _ _ from ih.get h2)
    have c3w:=@Touch.w _ _ _ _ _ _ _ (show Touch 66 _ _ _ _ _ _ from ih.get h2)
    simp only [go_sem,hs,set_at ho,set_at_app ho,set_app_set ho,ho,c3,exV]
  · simp only [hs,Bool.false_eq_true,if_false] at h
    have:takeP l wArrow s1 = s1:=by simp [takeP,hs]
    cases h
    simp only [go_sem,hs,set_at ho,set_at_app ho,set_app_set ho,ho,this,exV]
theorem unary_t {l:List Tok} (hl:l.length ≤ 1000000) (o n:Nat) (ih:PAll l o n) (s:PS) (x:Ex) (s':PS) (h:pF l (n + 1) .unary s = some (x,s')):Touch 192 [.ref o 0] l o s (exV x) s':=by
  intro B T lw ho
  refine calls_of2 rfl f192 ?_
  simp only [pF,Option.bind_eq_bind] at h
  have c1:=@Touch.wx _ _ _ _ _ _ _ (take_t hl o wMinus s)
  have c1w:=@Touch.w _ _ _ _ _ _ _ (take_t hl o wMinus s)
  simp only [go_sem,c192,set_at ho,set_at_app ho,set_app_set ho,ho,c1,exV]
  refine WG_intro (fun hs=>?_) fun hs=>?_
  · simp only [hs,if_true,Option.bind_eq_some_iff] at h
    obtain ⟨⟨b,s2⟩,h2,h⟩:=h
    cases h
    have c3:=@Touch.wx _ _ _ _ _ _ _ (show Touch 192 _ _ _ _ _ _ from ih.get h2)
    have c3w:=@Touch.w _ _ _ _ _ _ _ (show Touch 192 _ _ _ _ _ _ from ih.get h2)
    simp only [go_sem,hs,set_at ho,set_at_app ho,set_app_set ho,ho,c3,exV]
  · simp only [hs,Bool.false_eq_true,if_false] at h
    have:takeP l wMinus s = s:=by simp [takeP,hs]
    have c2:=@Touch.wx _ _ _ _ _ _ _ (take_t hl o wNot s)
    have c2w:=@Touch.w _ _ _ _ _ _ _ (take_t hl o wNot s)
    simp only [go_sem,hs,set_at ho,set_at_app ho,set_app_set ho,ho,this,exV,c2]
    refine WG_intro (fun hs=>?_) fun hs=>?_
    · simp only [hs,if_true,Option.bind_eq_some_iff] at h
      obtain ⟨⟨b,s2⟩,h2,h⟩:=h
      cases h
      have c3:=@Touch.wx _ _ _ _ _ _ _ (show Touch 192 _ _ _ _ _ _ from ih.get h2)
      have c3w:=@Touch.w _ _ _ _ _ _ _ (show Touch 192 _ _ _ _ _ _ from ih.get h2)
      simp only [go_sem,hs,set_at ho,set_at_app ho,set_app_set ho,ho,c3,exV]
    · simp only [hs,Bool.false_eq_true,if_false] at h
      have:takeP l wNot s = s:=by simp [takeP,hs]
      have c3:=@Touch.wx _ _ _ _ _ _ _ (show Touch 229 _ _ _ _ _ _ from ih.get h)
      have c3w:=@Touch.w _ _ _ _ _ _ _ (show Touch 229 _ _ _ _ _ _ from ih.get h)
      simp only [go_sem,hs,set_at ho,set_at_app ho,set_app_set ho,ho,this,exV,c3]
def exC (a:Ex):List HV:=[.d (.int .i64 a.kind),.d (.int .i32 a.n),.d (.str a.name),.d (.sl (encL a.sub))]
def LvI (l:List Tok) (o n:Nat) (k:Nat) (x:Ex) (s':PS) (B:List Obj) (T:List Nat) (m:Nat) (e:Env) (H:St):Prop:=
  ∃ a s sv,(sv = .d (.sl (encL a.sub)) ∨ sv = .own (encL a.sub) .exact) ∧ m ≤ n ∧ pF l m (.loop k a) s = some (x,s') ∧
    e = [(0,.ref o 0),(1,.d (.int .i64 k)),(4,.ref B.length 0),(5,.ref (B.length + 1) 0),(6,.d (.str (anyP l (marksS k) s)))] ∧
    H = ⟨B.set o (PC l (anyS l (marksS k) s)) ++ [.cells [.d (.int .i64 0),.d (.int .i32 0),.d (.str []),.own [] .exact],.cells [.d (.int .i64 a.kind),.d (.int .i32 a.n),.d (.str a.name),sv]],T,none⟩
theorem level_t {l:List Tok} (hl:l.length ≤ 1000000) (o n:Nat) (ih:PAll l o n) (k:Nat) (hk:k ≤ 6) (s:PS) (x:Ex) (s':PS) (h:pF l (n + 1) (.level k) s = some (x,s')) :
    Touch 142 [.ref o 0,.d (.int .i64 k)] l o s (exV x) s':=by
  intro B T lw ho
  refine calls_of2 rfl f142 ?_
  simp only [pF,Option.bind_eq_bind] at h
  simp only [go_sem,c142,set_at ho,set_at_app ho,set_app_set ho,ho]
  refine WG_intro (fun hs=>?_) fun hs=>?_
  · have hk6:k = 6:=by simp at hs;omega
    rw [if_pos hk6] at h
    have c3:=@Touch.wx _ _ _ _ _ _ _ (show Touch 192 _ _ _ _ _ _ from ih.get h)
    have c3w:=@Touch.w _ _ _ _ _ _ _ (show Touch 192 _ _ _ _ _ _ from ih.get h)
    simp only [go_sem,hs,set_at ho,set_at_app ho,set_app_set ho,ho,c3,exV]
  · have hk6:k ≠ 6:=by simp at hs;omega
    rw [if_neg hk6] at h
    simp only [Option.bind_eq_some_iff] at h
    obtain ⟨⟨a,s1⟩,h1,h⟩:=h
    have c1:=@Touch.wx _ _ _ _ _ _ _ (show Touch 142 _ _ _ _ _ _ from ih.get h1)
    have c1w:=@Touch.w _ _ _ _ _ _ _ (show Touch 142 _ _ _ _ _ _ from ih.get h1)
    have hm:=fun H=>WCall_of (marks_c k H)
    have e1:IntKind.i64.wrap ((k:Int) + 1) = ((k + 1:Nat):Int):=by rw [wrap64 (by omega) (by omega)];omega
    have c2:=@Touch.wx _ _ _ _ _ _ _ (any_t hl o (marksS k) (marks_ne k).1 (marks_ne k).2 s1)
    have c2w:=@Touch.w _ _ _ _ _ _ _ (any_t hl o (marksS k) (marks_ne k).1 (marks_ne k).2 s1)
    simp only [go_sem,hs,set_at ho,set_at_app ho,set_app_set ho,ho,c1,exV,hm,e1,c2]
    refine loop_I (LvI l o n k x s' B T) n ⟨a,s1,_,.inl rfl,Nat.le_refl _,h,rfl,rfl⟩ ?_
    clear hs c1 c1w h1 h c2 c2w
    rintro m e H ⟨b,s2,sv,hsv,hmn,h,rfl,rfl⟩
    cases m with
    | zero=>simp [pF] at h
    | succ m=>
    simp only [pF,Option.bind_eq_bind] at h
    simp only [go_sem,c142l0]
    refine WG_intro (fun hs=>?_) fun hs=>?_
    · have hne:anyP l (marksS k) s2 = []:=by simpa using hs
      rw [if_pos hne] at h
      cases h
      have hs':anyS l (marksS k) s' = s':=by simp [anyS,hne]
      rcases hsv with rfl | rfl <;> simp only [go_sem,hs,hs',set_at ho,set_at_app ho,set_app_set ho,ho]
    · have hne:anyP l (marksS k) s2 ≠ []:=by simpa using hs
      rw [if_neg hne] at h
      simp only [Option.bind_eq_some_iff] at h
      obtain ⟨⟨b',s3⟩,h1,h⟩:=h
      have c1:=@Touch.wx _ _ _ _ _ _ _ (show Touch 142 _ _ _ _ _ _ from ih m (by omega) _ _ _ _ h1)
      have c1w:=@Touch.w _ _ _ _ _ _ _ (show Touch 142 _ _ _ _ _ _ from ih m (by omega) _ _ _ _ h1)
      have c2:=@Touch.wx _ _ _ _ _ _ _ (any_t hl o (marksS k) (marks_ne k).1 (marks_ne k).2 s3)
      have c2w:=@Touch.w _ _ _ _ _ _ _ (any_t hl o (marksS k) (marks_ne k).1 (marks_ne k).2 s3)
      have hop:=fun H=>WCall_of (opOf_c (anyP l (marksS k) s2) H)
      have hb:decide (o < B.length + 2) = true:=by simp;omega
      rcases hsv with rfl | rfl
      all_goals
        simp only [go_sem,hs,set_at ho,set_at_app ho,set_app_set ho,ho,hop,e1,c1,exV]
        refine WG_intro (fun hs=>?_) fun hs=>?_
        · have hk2:k = 2:=by simp at hs;omega
          rw [if_pos hk2] at h
          cases h
          simp only [go_sem,hs,set_at ho,set_at_app ho,set_app_set ho,ho,exV]
        · have hk2:k ≠ 2:=by simp at hs;omega
          rw [if_neg hk2] at h
          simp only [go_sem,hs,set_at ho,set_at_app ho,set_app_set ho,ho,exV,hm,c2,hb]
          exact ⟨m,by omega,_,s3,_,.inr rfl,by omega,h,rfl,by simp only [go_sem]⟩
def FlI (l:List Tok) (o n:Nat) (x:Ex) (s':PS) (B:List Obj) (T:List Nat) (m:Nat) (e:Env) (H:St):Prop:=
  ∃ a s sv,(sv = .d (.sl (encL a.sub)) ∨ sv = .own (encL a.sub) .exact) ∧ m ≤ n ∧ pF l m (.fl a) s = some (x,s') ∧
    e = [(0,.ref o 0),(2,.ref B.length 0),(3,.ref (B.length + 1) 0)] ∧
    H = ⟨B.set o (PC l s) ++ [.cells [.d (.int .i64 0),.d (.int .i32 0),.d (.str []),.own [] .exact],.cells [.d (.int .i64 a.kind),.d (.int .i32 a.n),.d (.str a.name),sv]],T,none⟩
theorem factor_t {l:List Tok} (hl:l.length ≤ 1000000) (o n:Nat) (ih:PAll l o n) (s:PS) (x:Ex) (s':PS) (h:pF l (n + 1) .factor s = some (x,s')) :
    Touch 229 [.ref o 0] l o s (exV x) s':=by
  intro B T lw ho
  refine calls_of2 rfl f229 ?_
  simp only [pF,Option.bind_eq_bind,Option.bind_eq_some_iff] at h
  obtain ⟨⟨a,s1⟩,h1,h⟩:=h
  have c1:=@Touch.wx _ _ _ _ _ _ _ (show Touch 253 _ _ _ _ _ _ from ih.get h1)
  have c1w:=@Touch.w _ _ _ _ _ _ _ (show Touch 253 _ _ _ _ _ _ from ih.get h1)
  simp only [go_sem,c229,set_at ho,set_at_app ho,set_app_set ho,ho,c1,exV]
  refine loop_I (FlI l o n x s' B T) n ⟨a,s1,_,.inl rfl,Nat.le_refl _,h,rfl,rfl⟩ ?_
  clear c1 c1w h1 h
  rintro m e H ⟨b,s2,sv,hsv,hmn,h,rfl,rfl⟩
  cases m with
  | zero=>simp [pF] at h
  | succ m=>
  simp only [pF] at h
  have hb:decide (o < B.length + 2) = true:=by simp;omega
  have c2:=@Touch.wx _ _ _ _ _ _ _ (take_t hl o wWhen s2)
  have c2w:=@Touch.w _ _ _ _ _ _ _ (take_t hl o wWhen s2)
  simp only [go_sem,c229l0,set_at ho,set_at_app ho,set_app_set ho,ho,c2]
  refine WG_intro (fun hs=>?_) fun hs=>?_
  · rw [if_pos hs] at h
    have c3:=@Touch.wx _ _ _ _ _ _ _ (name_t hl o (takeP l wWhen s2))
    have c3w:=@Touch.w _ _ _ _ _ _ _ (name_t hl o (takeP l wWhen s2))
    simp only [go_sem,hs,set_at ho,set_at_app ho,set_app_set ho,ho,c3]
    rcases hsv with rfl | rfl
    all_goals
      simp only [go_sem,set_at ho,set_at_app ho,set_app_set ho,ho,hb]
      exact ⟨m,by omega,_,_,_,.inr rfl,by omega,h,rfl,by simp only [go_sem]⟩
  · rw [if_neg (by simp [hs])] at h
    have e2:takeP l wWhen s2 = s2:=by simp [takeP,hs]
    have c3:=@Touch.wx _ _ _ _ _ _ _ (take_t hl o wUnless s2)
    have c3w:=@Touch.w _ _ _ _ _ _ _ (take_t hl o wUnless s2)
    simp only [go_sem,hs,set_at ho,set_at_app ho,set_app_set ho,ho,e2,c3]
    refine WG_intro (fun hs=>?_) fun hs=>?_
    · rw [if_pos hs] at h
      have c4:=@Touch.wx _ _ _ _ _ _ _ (name_t hl o (takeP l wUnless s2))
      have c4w:=@Touch.w _ _ _ _ _ _ _ (name_t hl o (takeP l wUnless s2))
      simp only [go_sem,hs,set_at ho,set_at_app ho,set_app_set ho,ho,c4]
      rcases hsv with rfl | rfl
      all_goals
        simp only [go_sem,set_at ho,set_at_app ho,set_app_set ho,ho,hb]
        exact ⟨m,by omega,_,_,_,.inr rfl,by omega,h,rfl,by simp only [go_sem]⟩
    · rw [if_neg (by simp [hs])] at h
      have e3:takeP l wUnless s2 = s2:=by simp [takeP,hs]
      cases h
      rcases hsv with rfl | rfl <;> simp only [go_sem,hs,set_at ho,set_at_app ho,set_app_set ho,ho,e3]
theorem take_no {l:List Tok} {w:Str} {s:PS} (h:seesP l w s = false):takeP l w s = s:=by simp [takeP,h]
theorem atom_t {l:List Tok} (hl:l.length ≤ 1000000) (o n:Nat) (ih:PAll l o n) (s:PS) (x:Ex) (s':PS) (h:pF l (n + 1) .atom s = some (x,s')) :
    Touch 253 [.ref o 0] l o s (exV x) s':=by
  intro B T lw ho
  refine calls_of2 rfl f253 ?_
  simp only [pF,Option.bind_eq_bind] at h
  have c1:=@Touch.wx _ _ _ _ _ _ _ (next_t l o s)
  have c1w:=@Touch.w _ _ _ _ _ _ _ (next_t l o s)
  have hk:(((nextP l s).getD tokD).kind == 2) = isP l 2 s:=by unfold isP;cases nextP l s <;> rfl
  simp only [go_sem,c253,set_at ho,set_at_app ho,set_app_set ho,ho,c1,encTok,hk]
  refine WG_intro (fun hs=>?_) fun hs=>?_
  · rw [if_pos hs] at h
    cases h
    have c2:=@Touch.wx _ _ _ _ _ _ _ (token_t hl o 2 s)
    have c2w:=@Touch.w _ _ _ _ _ _ _ (token_t hl o 2 s)
    simp only [encTok,dcells_cons,dcells_nil] at c2
    simp only [go_sem,hs,set_at ho,set_at_app ho,set_app_set ho,ho,c2,exV]
  rw [if_neg (by simp [hs])] at h
  have c2:=@Touch.wx _ _ _ _ _ _ _ (take_t hl o wTrue s)
  have c2w:=@Touch.w _ _ _ _ _ _ _ (take_t hl o wTrue s)
  simp only [go_sem,hs,set_at ho,set_at_app ho,set_app_set ho,ho,c2]
  refine WG_intro (fun hs=>?_) fun hs=>?_
  · rw [if_pos hs] at h
    cases h
    simp only [go_sem,hs,set_at ho,set_at_app ho,set_app_set ho,ho,exV]
  rw [if_neg (by simp [hs])] at h
  have c3:=@Touch.wx _ _ _ _ _ _ _ (take_t hl o wFalse s)
  have c3w:=@Touch.w _ _ _ _ _ _ _ (take_t hl o wFalse s)
  simp only [go_sem,hs,set_at ho,set_at_app ho,set_app_set ho,ho,c3,take_no hs]
  refine WG_intro (fun hs=>?_) fun hs=>?_
  · rw [if_pos hs] at h
    cases h
    simp only [go_sem,hs,set_at ho,set_at_app ho,set_app_set ho,ho,exV]
  rw [if_neg (by simp [hs])] at h
  have c4:=@Touch.wx _ _ _ _ _ _ _ (take_t hl o [40] s)
  have c4w:=@Touch.w _ _ _ _ _ _ _ (take_t hl o [40] s)
  simp only [go_sem,hs,set_at ho,set_at_app ho,set_app_set ho,ho,c4,take_no hs]
  refine WG_intro (fun hs=>?_) fun hs=>?_
  · rw [if_pos hs] at h
    simp only [Option.bind_eq_some_iff] at h
    obtain ⟨⟨a,s1⟩,h1,h⟩:=h
    cases h
    have c5:=@Touch.wx _ _ _ _ _ _ _ (show Touch 66 _ _ _ _ _ _ from ih.get h1)
    have c5w:=@Touch.w _ _ _ _ _ _ _ (show Touch 66 _ _ _ _ _ _ from ih.get h1)
    have c6:=@Touch.wx _ _ _ _ _ _ _ (need_t hl o [41] s1)
    have c6w:=@Touch.w _ _ _ _ _ _ _ (need_t hl o [41] s1)
    simp only [go_sem,hs,set_at ho,set_at_app ho,set_app_set ho,ho,c5,c6,exV]
  rw [if_neg (by simp [hs])] at h
  have c5:=@Touch.wx _ _ _ _ _ _ _ (take_t hl o wIf s)
  have c5w:=@Touch.w _ _ _ _ _ _ _ (take_t hl o wIf s)
  simp only [go_sem,hs,set_at ho,set_at_app ho,set_app_set ho,ho,c5,take_no hs]
  refine WG_intro (fun hs=>?_) fun hs=>?_
  · rw [if_pos hs] at h
    simp only [Option.bind_eq_some_iff] at h
    obtain ⟨⟨a,s1⟩,h1,⟨b,s2⟩,h2,⟨c,s3⟩,h3,h⟩:=h
    cases h
    have d1:=@Touch.wx _ _ _ _ _ _ _ (show Touch 66 _ _ _ _ _ _ from ih.get h1)
    have d1w:=@Touch.w _ _ _ _ _ _ _ (show Touch 66 _ _ _ _ _ _ from ih.get h1)
    have d2:=@Touch.wx _ _ _ _ _ _ _ (need_t hl o wThen s1)
    have d2w:=@Touch.w _ _ _ _ _ _ _ (need_t hl o wThen s1)
    have d3:=@Touch.wx _ _ _ _ _ _ _ (show Touch 66 _ _ _ _ _ _ from ih.get h2)
    have d3w:=@Touch.w _ _ _ _ _ _ _ (show Touch 66 _ _ _ _ _ _ from ih.get h2)
    have d4:=@Touch.wx _ _ _ _ _ _ _ (need_t hl o wElse s2)
    have d4w:=@Touch.w _ _ _ _ _ _ _ (need_t hl o wElse s2)
    have d5:=@Touch.wx _ _ _ _ _ _ _ (show Touch 66 _ _ _ _ _ _ from ih.get h3)
    have d5w:=@Touch.w _ _ _ _ _ _ _ (show Touch 66 _ _ _ _ _ _ from ih.get h3)
    simp only [go_sem,hs,set_at ho,set_at_app ho,set_app_set ho,ho,d1,d2,d3,d4,d5,exV]
  rw [if_neg (by simp [hs])] at h
  have c6:=@Touch.wx _ _ _ _ _ _ _ (take_t hl o wMerge s)
  have c6w:=@Touch.w _ _ _ _ _ _ _ (take_t hl o wMerge s)
  simp only [go_sem,hs,set_at ho,set_at_app ho,set_app_set ho,ho,c6,take_no hs]
  refine WG_intro (fun hs=>?_) fun hs=>?_
  · rw [if_pos hs] at h
    simp only [Option.bind_eq_some_iff] at h
    obtain ⟨⟨a,s1⟩,h1,⟨b,s2⟩,h2,h⟩:=h
    cases h
    have d1:=@Touch.wx _ _ _ _ _ _ _ (name_t hl o (takeP l wMerge s))
    have d1w:=@Touch.w _ _ _ _ _ _ _ (name_t hl o (takeP l wMerge s))
    have d2:=@Touch.wx _ _ _ _ _ _ _ (show Touch 229 _ _ _ _ _ _ from ih.get h1)
    have d2w:=@Touch.w _ _ _ _ _ _ _ (show Touch 229 _ _ _ _ _ _ from ih.get h1)
    have d3:=@Touch.wx _ _ _ _ _ _ _ (show Touch 229 _ _ _ _ _ _ from ih.get h2)
    have d3w:=@Touch.w _ _ _ _ _ _ _ (show Touch 229 _ _ _ _ _ _ from ih.get h2)
    simp only [go_sem,hs,set_at ho,set_at_app ho,set_app_set ho,ho,d1,d2,d3,exV]
  rw [if_neg (by simp [hs])] at h
  cases h
  have c7:=@Touch.wx _ _ _ _ _ _ _ (name_t hl o s)
  have c7w:=@Touch.w _ _ _ _ _ _ _ (name_t hl o s)
  simp only [go_sem,hs,set_at ho,set_at_app ho,set_app_set ho,ho,c7,take_no hs,exV]
theorem pF_high (l:List Tok) (n:Nat) {k:Nat} (hk:6 < k) (s:PS):pF l n (.level k) s = none:=by
  induction n generalizing k s with
  | zero=>rfl
  | succ n ih=>
    simp only [pF]
    rw [if_neg (by omega),ih (by omega)]
    rfl
theorem pAll {l:List Tok} (hl:l.length ≤ 1000000) (o:Nat):∀ n,PAll l o n:=by
  intro n
  induction n with
  | zero=>intro m hm t s x s' h;obtain rfl:=Nat.le_zero.1 hm;simp [pF] at h
  | succ n ih=>
    intro m hm t s x s' h
    by_cases hmn:m ≤ n
    · exact ih m hmn t s x s' h
    obtain rfl:m = n + 1:=by omega
    cases t with
    | expr=>exact expr_t hl o n ih s x s' h
    | level k=>
      by_cases hk:k ≤ 6
      · exact level_t hl o n ih k hk s x s' h
      · rw [pF_high _ _ (by omega)] at h;cases h
    | unary=>exact unary_t hl o n ih s x s' h
    | factor=>exact factor_t hl o n ih s x s' h
    | atom=>exact atom_t hl o n ih s x s' h
    | loop k a=>trivial
    | fl a=>trivial
def rem (l:List Tok) (s:PS):Nat:=if s.bad then 0 else l.length - s.at_ + 1
def prank:PT→Nat
  | .expr=>12
  | .level k=>11 - k
  | .unary=>4
  | .factor=>3
  | .atom=>2
  | _=>1
def PT.ok:PT→Prop
  | .level k=>k ≤ 6
  | .loop k _=>k < 6
  | _=>True
theorem rem_next {l:List Tok} {s:PS} {t:Tok} (h:nextP l s = some t):s.bad = false ∧ s.at_ < l.length:=by
  unfold nextP at h
  split at h
  · cases h
  · rename_i hb;exact ⟨by simpa using hb,lt_of_at h⟩
theorem rem_drop {l:List Tok} {s:PS} {t:Tok} (h:nextP l s = some t):rem l ⟨s.at_ + 1,s.bad⟩ < rem l s:=by
  obtain ⟨hb,hlt⟩:=rem_next h
  simp [rem,hb];omega
theorem sees_next {l:List Tok} {s:PS} {w:Str} (h:seesP l w s = true):∃ t,nextP l s = some t:=by
  unfold seesP at h
  split at h
  · exact ⟨_,by assumption⟩
  · cases h
theorem is_next {l:List Tok} {s:PS} {k:Int} (h:isP l k s = true):∃ t,nextP l s = some t:=by
  unfold isP at h
  split at h
  · exact ⟨_,by assumption⟩
  · cases h
theorem rem_take {l:List Tok} {s:PS} {w:Str} (h:seesP l w s = true):rem l (takeP l w s) < rem l s:=by
  obtain ⟨t,ht⟩:=sees_next h
  rw [takeP,if_pos h];exact rem_drop ht
theorem rem_need (l:List Tok) (s:PS) (w:Str):rem l (needP l w s) ≤ rem l s:=by
  unfold needP
  split
  · rename_i h;obtain ⟨t,ht⟩:=sees_next h;exact Nat.le_of_lt (rem_drop ht)
  · simp [rem]
theorem rem_token (l:List Tok) (s:PS) (k:Int):rem l (tokenP l k s) ≤ rem l s:=by
  unfold tokenP
  split
  · rename_i h;obtain ⟨t,ht⟩:=is_next h;exact Nat.le_of_lt (rem_drop ht)
  · simp [rem]
theorem any_sees {l:List Tok} {ws:List Str} {s:PS} (h:anyP l ws s ≠ []):∃ w,seesP l w s = true:=by
  induction ws with
  | nil=>exact absurd rfl h
  | cons w ws ih=>
    rw [anyP] at h
    split at h
    · exact ⟨w,by assumption⟩
    · exact ih h
theorem rem_any {l:List Tok} {s:PS} {ws:List Str} (h:anyP l ws s ≠ []):rem l (anyS l ws s) < rem l s:=by
  obtain ⟨w,hw⟩:=any_sees h
  obtain ⟨t,ht⟩:=sees_next hw
  rw [anyS,if_neg h];exact rem_drop ht
theorem pF_total (l:List Tok):∀ n t s,t.ok→16 * rem l s + prank t ≤ n→∃ x s',pF l n t s = some (x,s') ∧ rem l s' ≤ rem l s:=by
  intro n
  induction n with
  | zero=>intro t s _ h;cases t <;> simp [prank] at h <;> (rename_i hk;simp [PT.ok] at hk;omega)
  | succ n ih=>
    intro t s hok h
    cases t with
    | expr=>
      simp only [prank] at h
      obtain ⟨a,s1,h1,r1⟩:=ih (.level 0) s (by simp [PT.ok]) (by simp only [prank];omega)
      simp only [pF,h1,Option.bind_eq_bind,Option.bind_some]
      by_cases hs:seesP l wArrow s1 = true
      · have:=rem_take hs
        obtain ⟨b,s2,h2,r2⟩:=ih .expr (takeP l wArrow s1) trivial (by simp only [prank];omega)
        rw [if_pos hs,h2]
        exact ⟨_,_,rfl,by (try dsimp only);omega⟩
      · rw [if_neg hs]
        exact ⟨_,_,rfl,r1⟩
    | level k=>
      simp only [prank,PT.ok] at h hok
      simp only [pF]
      by_cases hk:k = 6
      · rw [if_pos hk]
        exact ih .unary s trivial (by simp only [prank];omega)
      · rw [if_neg hk]
        obtain ⟨a,s1,h1,r1⟩:=ih (.level (k + 1)) s (by simp only [PT.ok];omega) (by simp only [prank];omega)
        obtain ⟨b,s2,h2,r2⟩:=ih (.loop k a) s1 (by simp only [PT.ok];omega) (by simp only [prank];omega)
        simp only [h1,Option.bind_eq_bind,Option.bind_some,h2]
        exact ⟨_,_,rfl,by (try dsimp only);omega⟩
    | loop k a=>
      simp only [prank,PT.ok] at h hok
      simp only [pF]
      by_cases hk:anyP l (marksS k) s = []
      · rw [if_pos hk];exact ⟨_,_,rfl,Nat.le_refl _⟩
      · rw [if_neg hk]
        have:=rem_any hk
        obtain ⟨b,s2,h2,r2⟩:=ih (.level (k + 1)) (anyS l (marksS k) s) (by simp only [PT.ok];omega) (by simp only [prank];omega)
        simp only [h2,Option.bind_eq_bind,Option.bind_some]
        by_cases hk2:k = 2
        · rw [if_pos hk2]
          exact ⟨_,_,rfl,by (try dsimp only);omega⟩
        · rw [if_neg hk2]
          obtain ⟨c,s3,h3,r3⟩:=ih (.loop k (.mk 5 (opOfS (anyP l (marksS k) s)) [] [a,b])) s2 (by simp only [PT.ok];omega) (by simp only [prank];omega)
          exact ⟨_,_,h3,by omega⟩
    | unary=>
      simp only [prank] at h
      simp only [pF]
      by_cases hs:seesP l wMinus s = true
      · have:=rem_take hs
        obtain ⟨b,s2,h2,r2⟩:=ih .unary (takeP l wMinus s) trivial (by simp only [prank];omega)
        rw [if_pos hs,h2]
        exact ⟨_,_,rfl,by (try dsimp only);omega⟩
      rw [if_neg hs]
      by_cases hs:seesP l wNot s = true
      · have:=rem_take hs
        obtain ⟨b,s2,h2,r2⟩:=ih .unary (takeP l wNot s) trivial (by simp only [prank];omega)
        rw [if_pos hs,h2]
        exact ⟨_,_,rfl,by (try dsimp only);omega⟩
      rw [if_neg hs]
      exact ih .factor s trivial (by simp only [prank];omega)
    | factor=>
      simp only [prank] at h
      obtain ⟨a,s1,h1,r1⟩:=ih .atom s trivial (by simp only [prank];omega)
      obtain ⟨b,s2,h2,r2⟩:=ih (.fl a) s1 trivial (by simp only [prank];omega)
      simp only [pF,h1,Option.bind_eq_bind,Option.bind_some,h2]
      exact ⟨_,_,rfl,by (try dsimp only);omega⟩
    | fl a=>
      simp only [prank] at h
      simp only [pF]
      split
      · rename_i hs
        have:=rem_take hs
        have:=rem_token l (takeP l wWhen s) 1
        obtain ⟨b,s2,h2,r2⟩:=ih (.fl (.mk 8 0 (nameT l (takeP l wWhen s)) [a])) (tokenP l 1 (takeP l wWhen s)) trivial (by simp only [prank];omega)
        exact ⟨_,_,h2,by omega⟩
      split
      · rename_i hs
        have:=rem_take hs
        have:=rem_token l (takeP l wUnless s) 1
        obtain ⟨b,s2,h2,r2⟩:=ih (.fl (.mk 9 0 (nameT l (takeP l wUnless s)) [a])) (tokenP l 1 (takeP l wUnless s)) trivial (by simp only [prank];omega)
        exact ⟨_,_,h2,by omega⟩
      · exact ⟨_,_,rfl,Nat.le_refl _⟩
    | atom=>
      simp only [prank] at h
      simp only [pF]
      split
      · exact ⟨_,_,rfl,rem_token _ _ _⟩
      split
      · rename_i hs;exact ⟨_,_,rfl,Nat.le_of_lt (rem_take hs)⟩
      split
      · rename_i hs;exact ⟨_,_,rfl,Nat.le_of_lt (rem_take hs)⟩
      split
      · rename_i hs
        have:=rem_take hs
        obtain ⟨a,s1,h1,r1⟩:=ih .expr _ trivial (show 16 * rem l (takeP l [40] s) + _ ≤ n by simp only [prank];omega)
        have:=rem_need l s1 [41]
        simp only [h1,Option.bind_eq_bind,Option.bind_some]
        exact ⟨_,_,rfl,by (try dsimp only);omega⟩
      split
      · rename_i hs
        have:=rem_take hs
        obtain ⟨a,s1,h1,r1⟩:=ih .expr _ trivial (show 16 * rem l (takeP l wIf s) + _ ≤ n by simp only [prank];omega)
        have:=rem_need l s1 wThen
        obtain ⟨b,s2,h2,r2⟩:=ih .expr _ trivial (show 16 * rem l (needP l wThen s1) + _ ≤ n by simp only [prank];omega)
        have:=rem_need l s2 wElse
        obtain ⟨c,s3,h3,r3⟩:=ih .expr _ trivial (show 16 * rem l (needP l wElse s2) + _ ≤ n by simp only [prank];omega)
        simp only [h1,h2,h3,Option.bind_eq_bind,Option.bind_some]
        exact ⟨_,_,rfl,by (try dsimp only);omega⟩
      split
      · rename_i hs
        have:=rem_take hs
        have:=rem_token l (takeP l wMerge s) 1
        obtain ⟨a,s1,h1,r1⟩:=ih .factor _ trivial (show 16 * rem l (tokenP l 1 (takeP l wMerge s)) + _ ≤ n by simp only [prank];omega)
        obtain ⟨b,s2,h2,r2⟩:=ih .factor s1 trivial (by simp only [prank];omega)
        simp only [h1,h2,Option.bind_eq_bind,Option.bind_some]
        exact ⟨_,_,rfl,by (try dsimp only);omega⟩
      · exact ⟨_,_,rfl,rem_token _ _ _⟩
theorem pF_mono (l:List Tok):∀ n t s r,pF l n t s = some r→pF l (n + 1) t s = some r:=by
  intro n
  induction n with
  | zero=>intro t s r h;simp [pF] at h
  | succ n ih=>
    intro t s r h
    have bnd:∀ {β:Type} {t:PT} {s:PS} {f:Ex × PS→Option β} {y:β},(pF l n t s).bind f = some y→(pF l (n + 1) t s).bind f = some y:=by
      intro β t s f y h
      obtain ⟨a,h1,h2⟩:=Option.bind_eq_some_iff.1 h
      rw [ih _ _ _ h1];exact h2
    cases t with
    | expr=>
      rw [pF] at h ⊢
      obtain ⟨a,h1,h2⟩:=Option.bind_eq_some_iff.1 h
      refine Option.bind_eq_some_iff.2 ⟨a,ih _ _ _ h1,?_⟩
      dsimp only at h2 ⊢
      split at h2 <;> rename_i hs <;> simp only [hs,if_true,if_false,Bool.false_eq_true]
      · exact bnd h2
      · exact h2
    | level k=>
      rw [pF] at h ⊢
      split at h <;> rename_i hs
      · rw [if_pos hs];exact ih _ _ _ h
      · rw [if_neg hs]
        obtain ⟨a,h1,h2⟩:=Option.bind_eq_some_iff.1 h
        exact Option.bind_eq_some_iff.2 ⟨a,ih _ _ _ h1,ih _ _ _ h2⟩
    | loop k a=>
      rw [pF] at h ⊢
      split at h <;> rename_i hs
      · rw [if_pos hs];exact h
      · rw [if_neg hs]
        obtain ⟨a,h1,h2⟩:=Option.bind_eq_some_iff.1 h
        refine Option.bind_eq_some_iff.2 ⟨a,ih _ _ _ h1,?_⟩
        dsimp only at h2 ⊢
        split at h2 <;> rename_i hk
        · rw [if_pos hk];exact h2
        · rw [if_neg hk];exact ih _ _ _ h2
    | unary=>
      rw [pF] at h ⊢
      split at h <;> rename_i hs
      · rw [if_pos hs];exact bnd h
      · rw [if_neg hs]
        split at h <;> rename_i hs
        · rw [if_pos hs];exact bnd h
        · rw [if_neg hs];exact ih _ _ _ h
    | factor=>
      rw [pF] at h ⊢
      obtain ⟨a,h1,h2⟩:=Option.bind_eq_some_iff.1 h
      exact Option.bind_eq_some_iff.2 ⟨a,ih _ _ _ h1,ih _ _ _ h2⟩
    | fl a=>
      rw [pF] at h ⊢
      split at h <;> rename_i hs
      · rw [if_pos hs];exact ih _ _ _ h
      · rw [if_neg hs]
        split at h <;> rename_i hs
        · rw [if_pos hs];exact ih _ _ _ h
        · rw [if_neg hs];exact h
    | atom=>
      rw [pF] at h ⊢
      split at h <;> rename_i hs
      · rw [if_pos hs];exact h
      rw [if_neg hs]
      split at h <;> rename_i hs
      · rw [if_pos hs];exact h
      rw [if_neg hs]
      split at h <;> rename_i hs
      · rw [if_pos hs];exact h
      rw [if_neg hs]
      split at h <;> rename_i hs
      · rw [if_pos hs];exact bnd h
      rw [if_neg hs]
      split at h <;> rename_i hs
      · rw [if_pos hs]
        obtain ⟨a,h1,h2⟩:=Option.bind_eq_some_iff.1 h
        refine Option.bind_eq_some_iff.2 ⟨a,ih _ _ _ h1,?_⟩
        obtain ⟨b,h3,h4⟩:=Option.bind_eq_some_iff.1 h2
        exact Option.bind_eq_some_iff.2 ⟨b,ih _ _ _ h3,bnd h4⟩
      rw [if_neg hs]
      split at h <;> rename_i hs
      · rw [if_pos hs]
        obtain ⟨a,h1,h2⟩:=Option.bind_eq_some_iff.1 h
        exact Option.bind_eq_some_iff.2 ⟨a,ih _ _ _ h1,bnd h2⟩
      · rw [if_neg hs];exact h
theorem pF_le {l:List Tok} {n m:Nat} (h:n ≤ m) {t:PT} {s:PS} {r:Ex × PS} (hr:pF l n t s = some r):pF l m t s = some r:=by
  induction h with
  | refl=>exact hr
  | step _ ih=>exact pF_mono _ _ _ _ _ ih
def exprR (l:List Tok) (s:PS):Option (Ex × PS):=pF l (16 * rem l s + 12) .expr s
def exprX (l:List Tok) (s:PS):Ex:=((exprR l s).map (·.1)).getD (.mk 0 0 [] [])
def exprP (l:List Tok) (s:PS):PS:=((exprR l s).map (·.2)).getD s
theorem exprR_eq (l:List Tok) (s:PS):exprR l s = some (exprX l s,exprP l s):=by
  obtain ⟨x,s',h,_⟩:=pF_total l (16 * rem l s + 12) .expr s trivial (Nat.le_refl _)
  simp [exprX,exprP,exprR,h]
theorem exprR_of {l:List Tok} {n:Nat} {s:PS} {r:Ex × PS} (h:pF l n .expr s = some r):exprX l s = r.1 ∧ exprP l s = r.2:=by
  have h1:=pF_le (Nat.le_max_left n (16 * rem l s + 12)) h
  have h2:=pF_le (Nat.le_max_right n (16 * rem l s + 12)) (exprR_eq l s)
  rw [h1] at h2
  cases h2
  exact ⟨rfl,rfl⟩
theorem rem_expr (l:List Tok) (s:PS):rem l (exprP l s) ≤ rem l s:=by
  obtain ⟨x,s',h,hr⟩:=pF_total l (16 * rem l s + 12) .expr s trivial (Nat.le_refl _)
  rw [(exprR_of h).2]
  exact hr
theorem expr_c {l:List Tok} (hl:l.length ≤ 1000000) (o:Nat) (s:PS):Touch 66 [.ref o 0] l o s (exV (exprX l s)) (exprP l s):=(pAll hl o _).get (exprR_eq l s)
end Am
