/- A part of the proof of BuildAgain: no condition of its own. Whence: AmRt2, AmGen1, AmGen2, AmGen3. -/
import Derived.Test.YtgepkelfblhpnaaGreatDoorA32
set_option linter.all false
namespace Am
open Go C
def showTK (k n:Int) (nm:Str) (t:List (List Tok)):List Tok:=
  if k = 1 then [tNum (digitsS n) n]
  else if k = 2 then [tWord (if n = 0 then wFalse else wTrue)]
  else if k = 4 then (if n = 2 then tWord wNot else tMark wMinus) :: t.getD 0 []
  else if k = 5 then t.getD 0 [] ++ tMark (markOfS n) :: t.getD 1 []
  else if k = 6 then tWord wIf :: t.getD 0 [] ++ tWord wThen :: t.getD 1 [] ++ tWord wElse :: t.getD 2 []
  else if k = 7 then t.getD 0 [] ++ tMark wArrow :: t.getD 1 []
  else if k = 8 then t.getD 0 [] ++ [tWord wWhen,tName nm]
  else if k = 9 then t.getD 0 [] ++ [tWord wUnless,tName nm]
  else if k = 10 then tWord wMerge :: tName nm :: (t.getD 0 [] ++ t.getD 1 [])
  else [tName nm]
mutual
def showT:Ex→List Tok
  | .mk k n nm l=>showTK k n nm (toksL (k == 6) l)
def toksL (b:Bool):List Ex→List (List Tok)
  | []=>[]
  | x :: xs=>(if b || atomK x.kind then showT x else [tMark wOpen] ++ showT x ++ [tMark wClose]) :: toksL b xs
end
def partT (x:Ex):List Tok:=if atomK x.kind then showT x else [tMark wOpen] ++ showT x ++ [tMark wClose]
theorem showT_eq (x:Ex):showT x = showTK x.kind x.n x.name (toksL (x.kind == 6) x.sub):=by cases x;rw [showT];rfl
theorem toksL_nil (b:Bool):toksL b [] = []:=by rw [toksL]
theorem toksL_cons (b:Bool) (x:Ex) (xs:List Ex):toksL b (x :: xs) = (if b || atomK x.kind then showT x else [tMark wOpen] ++ showT x ++ [tMark wClose]) :: toksL b xs:=by rw [toksL]
theorem toksL_six (l:List Ex):toksL true l = l.map showT:=by
  induction l with
  | nil=>rw [toksL_nil];rfl
  | cons x l ih=>rw [toksL_cons,ih];simp
theorem toksL_part (l:List Ex):toksL false l = l.map partT:=by
  induction l with
  | nil=>rw [toksL_nil];rfl
  | cons x l ih=>rw [toksL_cons,ih];simp [partT]
inductive Form:Ex→Prop where
  | num (n:Int):0 ≤ n→n ≤ 2147483647→Form (.mk 1 n [] [])
  | bool (n:Int):n = 0 ∨ n = 1→Form (.mk 2 n [] [])
  | var (nm:Str):nameS nm = true→Form (.mk 3 0 nm [])
  | un (n:Int) (a:Ex):n = 1 ∨ n = 2→Form a→Form (.mk 4 n [] [a])
  | bin (n:Int) (a b:Ex):1 ≤ n→n ≤ 16→Form a→Form b→Form (.mk 5 n [] [a,b])
  | cond (a b c:Ex):Form a→Form b→Form c→Form (.mk 6 0 [] [a,b,c])
  | arrow (a b:Ex):Form a→Form b→Form (.mk 7 0 [] [a,b])
  | when_ (nm:Str) (a:Ex):nameS nm = true→Form a→Form (.mk 8 0 nm [a])
  | unless_ (nm:Str) (a:Ex):nameS nm = true→Form a→Form (.mk 9 0 nm [a])
  | merge (nm:Str) (a b:Ex):nameS nm = true→Form a→Form b→Form (.mk 10 0 nm [a,b])
theorem form_of:∀ (n:Nat) (x:Ex),x.size ≤ n→x.formed = true→Form x:=by
  intro n
  induction n with
  | zero=>
    intro x h
    have:=x.size_eq
    omega
  | succ n ih=>
    intro x hx hf
    rw [x.size_eq] at hx
    rw [x.formed_eq] at hf
    obtain ⟨k,m,nm,l⟩:=x
    simp only [Ex.kind_mk,Ex.n_mk,Ex.name_mk,Ex.sub_mk,Bool.and_eq_true] at hf hx
    obtain ⟨hf,hl⟩:=hf
    have sub1:∀ a,l = [a]→Form a:=fun a h=>by
      subst h
      rw [sizeL_cons,sizeL_nil] at hx
      rw [formedL_cons,Bool.and_eq_true] at hl
      exact ih a (by omega) hl.1
    have sub2:∀ a b,l = [a,b]→Form a ∧ Form b:=fun a b h=>by
      subst h
      rw [sizeL_cons,sizeL_cons,sizeL_nil] at hx
      rw [formedL_cons,formedL_cons,Bool.and_eq_true,Bool.and_eq_true] at hl
      exact ⟨ih a (by omega) hl.1,ih b (by omega) hl.2.1⟩
    have sub3:∀ a b c,l = [a,b,c]→Form a ∧ Form b ∧ Form c:=fun a b c h=>by
      subst h
      rw [sizeL_cons,sizeL_cons,sizeL_cons,sizeL_nil] at hx
      rw [formedL_cons,formedL_cons,formedL_cons,Bool.and_eq_true,Bool.and_eq_true,Bool.and_eq_true] at hl
      exact ⟨ih a (by omega) hl.1,ih b (by omega) hl.2.1,ih c (by omega) hl.2.2.1⟩
    simp only [formedA,Bool.and_eq_true,decide_eq_true_eq,Bool.or_eq_true,beq_iff_eq] at hf
    obtain ⟨h1,h2,h3,h4,h5,h6⟩:=hf
    have len0:((l.length:Int) = 0)→l = []:=fun h=>List.length_eq_zero_iff.1 (by omega)
    have len1:((l.length:Int) = 1)→∃ a,l = [a]:=fun h=>List.length_eq_one_iff.1 (by omega)
    have len2:((l.length:Int) = 2)→∃ a b,l = [a,b]:=fun h=>by
      match l,h with
      | [a,b],_=>exact ⟨a,b,rfl⟩
      | [],h=>simp at h
      | [a],h=>simp at h
      | _ :: _ :: _ :: _,h=>simp at h;omega
    have len3:((l.length:Int) = 3)→∃ a b c,l = [a,b,c]:=fun h=>by
      match l,h with
      | [a,b,c],_=>exact ⟨a,b,c,rfl⟩
      | [],h=>simp at h
      | [a],h=>simp at h
      | [a,b],h=>simp at h
      | _ :: _ :: _ :: _ :: _,h=>simp at h;omega
    by_cases k1:k = 1
    · subst k1
      rw [show formS 1 = (0,0,2147483647,false,true) from rfl] at h2 h3 h4 h5 h6
      dsimp only at h2 h3 h4 h5 h6
      obtain rfl:nm = []:=by simpa using h6
      have hs:=len0 h2
      subst hs
      exact .num m h3 h4
    by_cases k2:k = 2
    · subst k2
      rw [show formS 2 = (0,0,1,false,true) from rfl] at h2 h3 h4 h5 h6
      dsimp only at h2 h3 h4 h5 h6
      obtain rfl:nm = []:=by simpa using h6
      have hs:=len0 h2
      subst hs
      exact .bool m (by omega)
    by_cases k3:k = 3
    · subst k3
      rw [show formS 3 = (0,0,0,true,true) from rfl] at h2 h3 h4 h5 h6
      dsimp only at h2 h3 h4 h5 h6
      have hs:=len0 h2
      subst hs
      obtain rfl:m = 0:=by omega
      exact .var nm h5.symm
    by_cases k4:k = 4
    · subst k4
      rw [show formS 4 = (1,1,2,false,true) from rfl] at h2 h3 h4 h5 h6
      dsimp only at h2 h3 h4 h5 h6
      obtain rfl:nm = []:=by simpa using h6
      obtain ⟨a,hl⟩:=len1 h2
      have hs:=sub1 a hl
      subst hl
      exact .un m a (by omega) hs
    by_cases k5:k = 5
    · subst k5
      rw [show formS 5 = (2,1,16,false,true) from rfl] at h2 h3 h4 h5 h6
      dsimp only at h2 h3 h4 h5 h6
      obtain rfl:nm = []:=by simpa using h6
      obtain ⟨a,b,hl⟩:=len2 h2
      have hs:=sub2 a b hl
      subst hl
      exact .bin m a b (by omega) (by omega) hs.1 hs.2
    by_cases k6:k = 6
    · subst k6
      rw [show formS 6 = (3,0,0,false,true) from rfl] at h2 h3 h4 h5 h6
      dsimp only at h2 h3 h4 h5 h6
      obtain rfl:nm = []:=by simpa using h6
      obtain ⟨a,b,c,hl⟩:=len3 h2
      have hs:=sub3 a b c hl
      subst hl
      obtain rfl:m = 0:=by omega
      exact .cond a b c hs.1 hs.2.1 hs.2.2
    by_cases k7:k = 7
    · subst k7
      rw [show formS 7 = (2,0,0,false,true) from rfl] at h2 h3 h4 h5 h6
      dsimp only at h2 h3 h4 h5 h6
      obtain rfl:nm = []:=by simpa using h6
      obtain ⟨a,b,hl⟩:=len2 h2
      have hs:=sub2 a b hl
      subst hl
      obtain rfl:m = 0:=by omega
      exact .arrow a b hs.1 hs.2
    by_cases k8:k = 8
    · subst k8
      rw [show formS 8 = (1,0,0,true,true) from rfl] at h2 h3 h4 h5 h6
      dsimp only at h2 h3 h4 h5 h6
      obtain ⟨a,hl⟩:=len1 h2
      have hs:=sub1 a hl
      subst hl
      obtain rfl:m = 0:=by omega
      exact .when_ nm a h5.symm hs
    by_cases k9:k = 9
    · subst k9
      rw [show formS 9 = (1,0,0,true,true) from rfl] at h2 h3 h4 h5 h6
      dsimp only at h2 h3 h4 h5 h6
      obtain ⟨a,hl⟩:=len1 h2
      have hs:=sub1 a hl
      subst hl
      obtain rfl:m = 0:=by omega
      exact .unless_ nm a h5.symm hs
    by_cases k10:k = 10
    · subst k10
      rw [show formS 10 = (2,0,0,true,true) from rfl] at h2 h3 h4 h5 h6
      dsimp only at h2 h3 h4 h5 h6
      obtain ⟨a,b,hl⟩:=len2 h2
      have hs:=sub2 a b hl
      subst hl
      obtain rfl:m = 0:=by omega
      exact .merge nm a b h5.symm hs.1 hs.2
    · simp [formS,k1,k2,k3,k4,k5,k6,k7,k8,k9,k10] at h1
theorem partE_atom {x:Ex} (h:atomK x.kind = true):partE x = showE x:=by unfold partE;rw [if_pos h]
theorem partE_not {x:Ex} (h:atomK x.kind = false):partE x = [40] ++ showE x ++ [41]:=by unfold partE;rw [h];rfl
theorem partT_atom {x:Ex} (h:atomK x.kind = true):partT x = showT x:=by unfold partT;rw [if_pos h]
theorem partT_not {x:Ex} (h:atomK x.kind = false):partT x = [tMark wOpen] ++ showT x ++ [tMark wClose]:=by unfold partT;rw [h];rfl
theorem showE_num (n:Int):showE (.mk 1 n [] []) = digitsS n:=by rw [showE_eq];rfl
theorem showE_bool (n:Int):showE (.mk 2 n [] []) = if n = 0 then wFalse else wTrue:=by rw [showE_eq];rfl
theorem showE_var (nm:Str):showE (.mk 3 0 nm []) = nm:=by rw [showE_eq];rfl
theorem showE_un (n:Int) (a:Ex):showE (.mk 4 n [] [a]) = if n = 2 then [110,111,116,32] ++ partE a else [45] ++ partE a:=by
  rw [showE_eq];show showK 4 n [] (textsL false [a]) = _;rw [textsL_part];rfl
theorem showE_bin (n:Int) (a b:Ex):showE (.mk 5 n [] [a,b]) = partE a ++ [32] ++ markOfS n ++ [32] ++ partE b:=by
  rw [showE_eq];show showK 5 n [] (textsL false [a,b]) = _;rw [textsL_part];rfl
theorem showE_cond (a b c:Ex):showE (.mk 6 0 [] [a,b,c]) = [105,102,32] ++ showE a ++ [32,116,104,101,110,32] ++ showE b ++ [32,101,108,115,101,32] ++ showE c:=by
  rw [showE_eq];show showK 6 0 [] (textsL true [a,b,c]) = _;rw [textsL_six];rfl
theorem showE_arrow (a b:Ex):showE (.mk 7 0 [] [a,b]) = partE a ++ [32,45,62,32] ++ partE b:=by
  rw [showE_eq];show showK 7 0 [] (textsL false [a,b]) = _;rw [textsL_part];rfl
theorem showE_when (nm:Str) (a:Ex):showE (.mk 8 0 nm [a]) = partE a ++ [32,119,104,101,110,32] ++ nm:=by
  rw [showE_eq];show showK 8 0 nm (textsL false [a]) = _;rw [textsL_part];rfl
theorem showE_unless (nm:Str) (a:Ex):showE (.mk 9 0 nm [a]) = partE a ++ [32,117,110,108,101,115,115,32] ++ nm:=by
  rw [showE_eq];show showK 9 0 nm (textsL false [a]) = _;rw [textsL_part];rfl
theorem showE_merge (nm:Str) (a b:Ex):showE (.mk 10 0 nm [a,b]) = [109,101,114,103,101,32] ++ nm ++ [32] ++ partE a ++ [32] ++ partE b:=by
  rw [showE_eq];show showK 10 0 nm (textsL false [a,b]) = _;rw [textsL_part];rfl
theorem showT_num (n:Int):showT (.mk 1 n [] []) = [tNum (digitsS n) n]:=by rw [showT_eq];rfl
theorem showT_bool (n:Int):showT (.mk 2 n [] []) = [tWord (if n = 0 then wFalse else wTrue)]:=by rw [showT_eq];rfl
theorem showT_var (nm:Str):showT (.mk 3 0 nm []) = [tName nm]:=by rw [showT_eq];rfl
theorem showT_un (n:Int) (a:Ex):showT (.mk 4 n [] [a]) = (if n = 2 then tWord wNot else tMark wMinus) :: partT a:=by
  rw [showT_eq];show showTK 4 n [] (toksL false [a]) = _;rw [toksL_part];rfl
theorem showT_bin (n:Int) (a b:Ex):showT (.mk 5 n [] [a,b]) = partT a ++ tMark (markOfS n) :: partT b:=by
  rw [showT_eq];show showTK 5 n [] (toksL false [a,b]) = _;rw [toksL_part];rfl
theorem showT_cond (a b c:Ex):showT (.mk 6 0 [] [a,b,c]) = tWord wIf :: showT a ++ tWord wThen :: showT b ++ tWord wElse :: showT c:=by
  rw [showT_eq];show showTK 6 0 [] (toksL true [a,b,c]) = _;rw [toksL_six];rfl
theorem showT_arrow (a b:Ex):showT (.mk 7 0 [] [a,b]) = partT a ++ tMark wArrow :: partT b:=by
  rw [showT_eq];show showTK 7 0 [] (toksL false [a,b]) = _;rw [toksL_part];rfl
theorem showT_when (nm:Str) (a:Ex):showT (.mk 8 0 nm [a]) = partT a ++ [tWord wWhen,tName nm]:=by
  rw [showT_eq];show showTK 8 0 nm (toksL false [a]) = _;rw [toksL_part];rfl
theorem showT_unless (nm:Str) (a:Ex):showT (.mk 9 0 nm [a]) = partT a ++ [tWord wUnless,tName nm]:=by
  rw [showT_eq];show showTK 9 0 nm (toksL false [a]) = _;rw [toksL_part];rfl
theorem showT_merge (nm:Str) (a b:Ex):showT (.mk 10 0 nm [a,b]) = tWord wMerge :: tName nm :: (partT a ++ partT b):=by
  rw [showT_eq];show showTK 10 0 nm (toksL false [a,b]) = _;rw [toksL_part];rfl
def softB (s:Str):Prop:=∃ c r,s = c :: r ∧ c ≠ 45 ∧ c ≠ 62
theorem name_head {nm:Str} (h:nameS nm = true):∃ c r,nm = c :: r ∧ letterI c.toNat = true:=by
  cases nm with
  | nil=>simp [nameS] at h
  | cons c r=>
    simp only [nameS,Bool.and_eq_true] at h
    exact ⟨c,r,rfl,h.2.1⟩
theorem soft_app {s:Str} (h:softB s) (r:Str):softB (s ++ r):=by
  obtain ⟨c,t,rfl,h1,h2⟩:=h
  exact ⟨c,t ++ r,rfl,h1,h2⟩
theorem letter_soft {c:UInt8} (h:letterI c.toNat = true):c ≠ 45 ∧ c ≠ 62:=by
  refine ⟨(letter_blank h).2,?_⟩
  rintro rfl;revert h;decide
theorem part_soft {x:Ex} (h:Form x):softB (partE x):=by
  induction h with
  | num n h1 h2=>
    rw [partE_atom rfl,showE_num]
    obtain ⟨h3,h4,_⟩:=digits_ok h1 h2
    cases hd:digitsS n with
    | nil=>exact absurd hd h3
    | cons c r=>
      rw [hd] at h4
      simp only [List.all_cons,Bool.and_eq_true] at h4
      refine ⟨c,r,rfl,?_,?_⟩ <;> (rintro rfl;revert h4;simp [onB,digitI])
  | bool n h=>rw [partE_atom rfl,showE_bool];split;exact ⟨102,_,rfl,by decide,by decide⟩;exact ⟨116,_,rfl,by decide,by decide⟩
  | var nm h=>
    rw [partE_atom rfl,showE_var]
    obtain ⟨c,r,rfl,h2⟩:=name_head h
    exact ⟨c,r,rfl,(letter_soft h2).1,(letter_soft h2).2⟩
  | when_ nm a h ha ih=>rw [partE_atom rfl,showE_when];exact soft_app (soft_app ih _) _
  | unless_ nm a h ha ih=>rw [partE_atom rfl,showE_unless];exact soft_app (soft_app ih _) _
  | _=>rw [partE_not rfl];exact ⟨40,_,rfl,by decide,by decide⟩
def LexE (s:Str) (t:List Tok):Prop:=∀ r ts,stopB r→LexTo r ts→LexTo (s ++ r) (t ++ ts)
theorem lexE_part {x:Ex} (h:LexE (showE x) (showT x)):LexE (partE x) (partT x):=by
  cases hk:atomK x.kind with
  | true=>rw [partE_atom hk,partT_atom hk];exact h
  | false=>
    rw [partE_not hk,partT_not hk]
    intro r ts hr hl
    have:=lex_open (h (41 :: r) (tMark [41] :: ts) (stop_close r) (lex_close hl))
    simpa using this
theorem word_facts:(∀ w ∈ [wNot,wWhen,wUnless,wTrue,wFalse,wIf,wThen,wElse,wMerge,wBool,wInt,wPre,wFby,wNode,wReturns,wVar,wLet,wTel],wordS w = true ∧ headS innerI w = w ∧ letterI (w.headD 0).toNat = true):=by decide
theorem lexE_word {w:Str} (hw:w ∈ [wNot,wWhen,wUnless,wTrue,wFalse,wIf,wThen,wElse,wMerge,wBool,wInt,wPre,wFby,wNode,wReturns,wVar,wLet,wTel]):LexE w [tWord w]:=by
  intro r ts hr hl
  obtain ⟨h1,h2,h3⟩:=word_facts w hw
  exact lex_word h1 h2 h3 hr hl
theorem lexE_name {w:Str} (hw:nameS w = true):LexE w [tName w]:=fun _ _ hr hl=>lex_name hw hr hl
theorem lexE_num {n:Int} (h1:0 ≤ n) (h2:n ≤ 2147483647):LexE (digitsS n) [tNum (digitsS n) n]:=fun _ _ hr hl=>by
  obtain ⟨h3,h4,h5⟩:=digits_ok h1 h2
  exact lex_num h3 h4 h5 hr hl
theorem lex_op:∀ (m:Int),1 ≤ m→m ≤ 16→∀ r ts,LexTo (32 :: r) ts→LexTo (markOfS m ++ 32 :: r) (tMark (markOfS m) :: ts):=by
  intro m h1 h2 r ts hl
  have sp:∀ c:UInt8,markS [c,32] = false→∀ d r',(32 :: r:Str) = d :: r'→markS [c,d] = false:=by
    intro c h d r' he
    simp only [List.cons.injEq] at he
    rw [← he.1];exact h
  have one:∀ c:UInt8,signB c = true→markS [c] = true→markS [c,32] = false→LexTo (c :: 32 :: r) (tMark [c] :: ts):=fun c a1 a2 a3=>
    lex_mark1 a1 a2 (sp c a3) (by simp) hl
  have two:∀ c d:UInt8,signB c = true→markS [c,d] = true→¬ (c = 45 ∧ d = 45)→LexTo (c :: d :: 32 :: r) (tMark [c,d] :: ts):=fun c d a1 a2 a3=>lex_mark2 a1 a2 a3 hl
  have hm:m = 1 ∨ m = 2 ∨ m = 3 ∨ m = 4 ∨ m = 5 ∨ m = 6 ∨ m = 7 ∨ m = 8 ∨ m = 9 ∨ m = 10 ∨ m = 11 ∨ m = 12 ∨ m = 13 ∨ m = 14 ∨ m = 15 ∨ m = 16:=by omega
  rcases hm with rfl | rfl | rfl | rfl | rfl | rfl | rfl | rfl | rfl | rfl | rfl | rfl | rfl | rfl | rfl | rfl
  · exact one 43 (by decide) (by decide) (by decide)
  · exact one 45 (by decide) (by decide) (by decide)
  · exact one 42 (by decide) (by decide) (by decide)
  · exact one 47 (by decide) (by decide) (by decide)
  · exact one 37 (by decide) (by decide) (by decide)
  · exact two 60 60 (by decide) (by decide) (by decide)
  · exact two 62 62 (by decide) (by decide) (by decide)
  · exact one 38 (by decide) (by decide) (by decide)
  · exact one 124 (by decide) (by decide) (by decide)
  · exact one 94 (by decide) (by decide) (by decide)
  · exact one 61 (by decide) (by decide) (by decide)
  · exact two 60 62 (by decide) (by decide) (by decide)
  · exact one 60 (by decide) (by decide) (by decide)
  · exact two 60 61 (by decide) (by decide) (by decide)
  · exact one 62 (by decide) (by decide) (by decide)
  · exact two 62 61 (by decide) (by decide) (by decide)
theorem show_lex {x:Ex} (h:Form x):LexE (showE x) (showT x):=by
  induction h with
  | num n h1 h2=>rw [showE_num,showT_num];exact lexE_num h1 h2
  | bool n h=>
    rw [showE_bool,showT_bool]
    split <;> exact lexE_word (by decide)
  | var nm h=>rw [showE_var,showT_var];exact lexE_name h
  | un n a h ha ih=>
    rw [showE_un,showT_un]
    intro r ts hr hl
    have h1:=lexE_part ih r ts hr hl
    split
    · have:=lexE_word (w:=wNot) (by decide) (32 :: (partE a ++ r)) _ (stop_sp _) (lex_sp h1)
      simpa using this
    · have hs:=soft_app (part_soft ha) r
      obtain ⟨c,t,hs,hc1,hc2⟩:=hs
      rw [hs] at h1
      have:=lex_mark1 (c:=45) (by decide) (by decide) (fun d r' he=>by
        simp only [List.cons.injEq] at he
        rw [← he.1]
        simp [markS,hc2]) (by simp [hc1]) h1
      rw [← hs] at this
      simpa using this
  | bin n a b h1 h2 ha hb iha ihb=>
    rw [showE_bin,showT_bin]
    intro r ts hr hl
    have e1:=lex_op n h1 h2 _ _ (lex_sp (lexE_part ihb r ts hr hl))
    have e2:=lexE_part iha _ _ (stop_sp _) (lex_sp e1)
    simpa using e2
  | cond a b c ha hb hc iha ihb ihc=>
    rw [showE_cond,showT_cond]
    intro r ts hr hl
    have e1:=lexE_word (w:=wElse) (by decide) _ _ (stop_sp _) (lex_sp (ihc r ts hr hl))
    have e2:=ihb _ _ (stop_sp _) (lex_sp e1)
    have e3:=lexE_word (w:=wThen) (by decide) _ _ (stop_sp _) (lex_sp e2)
    have e4:=iha _ _ (stop_sp _) (lex_sp e3)
    have e5:=lexE_word (w:=wIf) (by decide) _ _ (stop_sp _) (lex_sp e4)
    simpa using e5
  | arrow a b ha hb iha ihb=>
    rw [showE_arrow,showT_arrow]
    intro r ts hr hl
    have e1:=lex_mark2 (c:=45) (d:=62) (by decide) (by decide) (by decide) (lex_sp (lexE_part ihb r ts hr hl))
    have e2:=lexE_part iha _ _ (stop_sp _) (lex_sp e1)
    simpa using e2
  | when_ nm a h ha ih=>
    rw [showE_when,showT_when]
    intro r ts hr hl
    have e1:=lexE_word (w:=wWhen) (by decide) _ _ (stop_sp _) (lex_sp (lexE_name h r ts hr hl))
    have e2:=lexE_part ih _ _ (stop_sp _) (lex_sp e1)
    simpa using e2
  | unless_ nm a h ha ih=>
    rw [showE_unless,showT_unless]
    intro r ts hr hl
    have e1:=lexE_word (w:=wUnless) (by decide) _ _ (stop_sp _) (lex_sp (lexE_name h r ts hr hl))
    have e2:=lexE_part ih _ _ (stop_sp _) (lex_sp e1)
    simpa using e2
  | merge nm a b h ha hb iha ihb=>
    rw [showE_merge,showT_merge]
    intro r ts hr hl
    have e1:=lexE_part iha _ _ (stop_sp _) (lex_sp (lexE_part ihb r ts hr hl))
    have e2:=lexE_name h _ _ (stop_sp _) (lex_sp e1)
    have e3:=lexE_word (w:=wMerge) (by decide) _ _ (stop_sp _) (lex_sp e2)
    simpa using e3
end Am
namespace Am
open Go C
structure Ins where
  op:Int
  n:Int
deriving DecidableEq
def encIns (i:Ins):List D:=[.int .i64 i.op,.int .i32 i.n]
def insV (l:List Ins):D:=.sl (l.map encIns)
theorem one_c (op n:Int) (H:St):CallsA prg 168 [.d (.int .i64 op),.d (.int .i32 n)] H (.d (insV [⟨op,n⟩])) H:=by
  refine calls_of2 rfl f168 ?_
  obtain ⟨B,T,lw⟩:=H
  simp only [go_sem,c168]
  rfl
def RowI (ps:List (List Ins)) (B:List Obj) (T:List Nat) (k:Nat) (e:Env) (H:St):Prop:=
  ∃ i,i ≤ ps.length ∧ k = ps.length - i ∧
    e = [(3,.own ((ps.take i).flatten.map encIns) (tipT T 2 ((ps.take i).flatten.map encIns))),(6,.d (.sl (ps.map fun p=>[insV p]))),(7,.d (.int .i64 ps.length)),(8,.d (.int .i64 i))] ∧
    H = ⟨B,tipL T ((ps.take i).flatten.map encIns),none⟩
theorem take_flat_len {α:Type} (ps:List (List α)) (i:Nat):(ps.take i).flatten.length ≤ ps.flatten.length:=by
  conv=>rhs;rw [← List.take_append_drop i ps,List.flatten_append,List.length_append]
  omega
theorem row_c (ps:List (List Ins)) (hp:ps.length ≤ 1000) (hl:ps.flatten.length ≤ 1000000000) (H:St):CallsA prg 167 [.own (ps.map fun p=>[insV p]) .exact] H (.d (insV ps.flatten)) H:=by
  refine calls_of2 rfl f167 ?_
  obtain ⟨B,T,lw⟩:=H
  simp only [go_sem,c167,List.length_map]
  refine loop_I (RowI ps B T) ps.length ⟨0,Nat.zero_le _,rfl,rfl,rfl⟩ ?_
  rintro k e H ⟨i,hi,rfl,rfl,rfl⟩
  simp only [go_sem,c167l0]
  refine WG_intro (fun h=>?_) fun h=>?_
  · have hlt:i < ps.length:=by simpa using h
    obtain ⟨c,hc0⟩:=at_of_lt hlt
    have e2:(ps.map fun p=>[D.sl (p.map encIns)])[i]? = some [.sl (c.map encIns)]:=by simp [hc0]
    have hwi:IntKind.i64.wrap ((i:Int) + 1) = ((i + 1:Nat):Int):=by rw [wrap64 (by omega) (by omega)];omega
    have hnx:(ps.take (i + 1)).flatten = (ps.take i).flatten ++ c:=by rw [List.take_add_one,hc0];simp
    have hl2:=take_flat_len ps (i + 1)
    rw [hnx,List.length_append] at hl2
    have hap:=fun O lw=>appendV_enc encIns (sz:=2) (fun _=>rfl) (ps.take i).flatten c (by unfold roomN;omega) O T lw
    rw [← hnx] at hap
    have hrows:∀ H:St,H.rows (.d (.sl (c.map encIns))) 2 = some (c.map encIns):=by
      intro H
      simp only [St.rows]
      rw [if_pos (by simp [encIns])]
    simp only [go_sem,h,e2,insV,hap,hwi,hrows]
    exact ⟨_,by omega,i + 1,by omega,rfl,rfl,rfl⟩
  · have hlt:i = ps.length:=by have:=of_decide_eq_false h;omega
    subst hlt
    simp only [go_sem,h]
    rfl
def choiceS (v y n:List Ins):List Ins:=v ++ ([⟨11,(y.length:Int) + 1⟩] ++ (y ++ ([⟨10,n.length⟩] ++ n)))
theorem choice_c (v y n:List Ins) (h1:v.length ≤ 100000000) (h2:y.length ≤ 100000000) (h3:n.length ≤ 100000000) (H:St) :
    CallsA prg 211 [.d (insV v),.d (insV y),.d (insV n)] H (.d (insV (choiceS v y n))) H:=by
  have c1:=fun a b H=>WCall_of (one_c a b H)
  have c2:=fun H=>WCall_of (row_c [v,[⟨11,(y.length:Int) + 1⟩],y,[⟨10,n.length⟩],n] (by simp) (by simp;omega) H)
  have e1:[v,[⟨11,(y.length:Int) + 1⟩],y,[⟨10,n.length⟩],n].flatten = choiceS v y n:=by simp [choiceS]
  rw [e1] at c2
  simp only [List.map_cons,List.map_nil] at c2
  have w1:IntKind.i64.wrap ((y.length:Int) + 1) = (y.length:Int) + 1:=wrap64 (by omega) (by omega)
  have w2:IntKind.i32.wrap ((y.length:Int) + 1) = (y.length:Int) + 1:=wrap32 (by omega) (by omega)
  have w3:IntKind.i32.wrap (n.length:Int) = (n.length:Int):=wrap32 (by omega) (by omega)
  simp only [insV,List.map_cons,List.map_nil] at c1 c2 ⊢
  refine calls_of2 rfl f211 ?_
  obtain ⟨B,T,lw⟩:=H
  simp only [go_sem,c211,List.length_map,w1,w2,w3,c1,c2]
structure Plan where
  slot:Str→Int
  flag:Clk→Int
def partClk (k:Int) (nm:Str) (c:Clk):Clk × Clk:=if k = 8 ∨ k = 9 then (clk0,clk0) else if k = 10 then (⟨1,nm⟩,⟨2,nm⟩) else (c,c)
def codeK (P:Plan) (k n:Int) (nm:Str) (c:Clk) (t:List (List Ins)):List Ins:=
  if k = 3 then [⟨2,P.slot nm⟩] else if k = 4 then t.getD 0 [] ++ [⟨8,n⟩] else if k = 5 then t.getD 0 [] ++ (t.getD 1 [] ++ [⟨9,n⟩])
  else if k = 6 then choiceS (t.getD 0 []) (t.getD 1 []) (t.getD 2 []) else if k = 7 then choiceS [⟨4,P.flag c⟩] (t.getD 1 []) (t.getD 0 [])
  else if k = 8 ∨ k = 9 then t.getD 0 [] else if k = 10 then choiceS [⟨2,P.slot nm⟩] (t.getD 0 []) (t.getD 1 []) else [⟨1,n⟩]
mutual
def codeE (P:Plan):Ex→Clk→List Ins
  | .mk k n nm l,c=>codeK P k n nm c (codesL P l (partClk k nm c))
def codesL (P:Plan):List Ex→Clk × Clk→List (List Ins)
  | [],_=>[]
  | x :: xs,c=>codeE P x c.1 :: codesL P xs (c.2,c.2)
end
theorem codeE_eq (P:Plan) (k n:Int) (nm:Str) (l:List Ex) (c:Clk):codeE P (.mk k n nm l) c = codeK P k n nm c (codesL P l (partClk k nm c)):=by rw [codeE]
theorem codesL_nil (P:Plan) (c:Clk × Clk):codesL P [] c = []:=by rw [codesL]
theorem codesL_cons (P:Plan) (x:Ex) (xs:List Ex) (c:Clk × Clk):codesL P (x :: xs) c = codeE P x c.1 :: codesL P xs (c.2,c.2):=by rw [codesL]
section
variable (P:Plan) (c:Clk) (nm:Str) (n:Int) (x y z:Ex)
theorem codeE_num:codeE P (.mk 1 n [] []) c = [⟨1,n⟩]:=by rw [codeE_eq];rfl
theorem codeE_bool:codeE P (.mk 2 n [] []) c = [⟨1,n⟩]:=by rw [codeE_eq];rfl
theorem codeE_var:codeE P (.mk 3 0 nm []) c = [⟨2,P.slot nm⟩]:=by rw [codeE_eq];rfl
theorem codeE_un:codeE P (.mk 4 n [] [x]) c = codeE P x c ++ [⟨8,n⟩]:=by rw [codeE_eq,codesL_cons,codesL_nil];rfl
theorem codeE_bin:codeE P (.mk 5 n [] [x,y]) c = codeE P x c ++ (codeE P y c ++ [⟨9,n⟩]):=by rw [codeE_eq,codesL_cons,codesL_cons,codesL_nil];rfl
theorem codeE_if:codeE P (.mk 6 0 [] [x,y,z]) c = choiceS (codeE P x c) (codeE P y c) (codeE P z c):=by rw [codeE_eq,codesL_cons,codesL_cons,codesL_cons,codesL_nil];rfl
theorem codeE_arrow:codeE P (.mk 7 0 [] [x,y]) c = choiceS [⟨4,P.flag c⟩] (codeE P y c) (codeE P x c):=by rw [codeE_eq,codesL_cons,codesL_cons,codesL_nil];rfl
theorem codeE_when:codeE P (.mk 8 0 nm [x]) c = codeE P x clk0:=by rw [codeE_eq,codesL_cons,codesL_nil];rfl
theorem codeE_unless:codeE P (.mk 9 0 nm [x]) c = codeE P x clk0:=by rw [codeE_eq,codesL_cons,codesL_nil];rfl
theorem codeE_merge:codeE P (.mk 10 0 nm [x,y]) c = choiceS [⟨2,P.slot nm⟩] (codeE P x ⟨1,nm⟩) (codeE P y ⟨2,nm⟩):=by rw [codeE_eq,codesL_cons,codesL_cons,codesL_nil];rfl
end
theorem choice_len (v y n:List Ins):(choiceS v y n).length = v.length + y.length + n.length + 2:=by simp [choiceS];omega
theorem code_len (P:Plan) {x:Ex} (h:Form x):∀ c,(codeE P x c).length ≤ 3 * x.size:=by
  induction h with
  | num n=>intro c;rw [codeE_num,Ex.size_eq];simp only [List.length_cons,List.length_nil];omega
  | bool n=>intro c;rw [codeE_bool,Ex.size_eq];simp only [List.length_cons,List.length_nil];omega
  | var n=>intro c;rw [codeE_var,Ex.size_eq];simp only [List.length_cons,List.length_nil];omega
  | un n a h ha ih=>intro c;have:=ih c;rw [codeE_un,Ex.size_eq,Ex.sub_mk,sizeL_cons,sizeL_nil];simp;omega
  | bin n a b h1 h2 ha hb iha ihb=>intro c;have:=iha c;have:=ihb c;rw [codeE_bin,Ex.size_eq,Ex.sub_mk,sizeL_cons,sizeL_cons,sizeL_nil];simp;omega
  | cond a b d ha hb hd iha ihb ihd=>intro c;have:=iha c;have:=ihb c;have:=ihd c;rw [codeE_if,Ex.size_eq,Ex.sub_mk,sizeL_cons,sizeL_cons,sizeL_cons,sizeL_nil,choice_len];omega
  | arrow a b ha hb iha ihb=>intro c;have:=iha c;have:=ihb c;rw [codeE_arrow,Ex.size_eq,Ex.sub_mk,sizeL_cons,sizeL_cons,sizeL_nil,choice_len];simp;omega
  | when_ nm a h ha ih=>intro c;have:=ih clk0;rw [codeE_when,Ex.size_eq,Ex.sub_mk,sizeL_cons,sizeL_nil];omega
  | unless_ nm a h ha ih=>intro c;have:=ih clk0;rw [codeE_unless,Ex.size_eq,Ex.sub_mk,sizeL_cons,sizeL_nil];omega
  | merge nm a b h ha hb iha ihb=>intro c;have:=iha ⟨1,nm⟩;have:=ihb ⟨2,nm⟩;rw [codeE_merge,Ex.size_eq,Ex.sub_mk,sizeL_cons,sizeL_cons,sizeL_nil,choice_len];simp;omega
end Am
namespace Am
open Go C
def n32:Option (List D)→Int
  | some [.int _ n]=>n
  | _=>0
def i32M {κ:Type} (es:Ents κ):Prop:=∀ p ∈ es,∃ n:Int,p.2 = [.int .i32 n]
theorem i32M_get {κ:Type} [DecidableEq κ] {es:Ents κ} (h:i32M es) (a:κ):(getM es a).getD [.int .i32 0] = [.int .i32 (n32 (getM es a))]:=by
  unfold getM
  cases hf:es.find? fun p=>decide (a = p.1) with
  | none=>rfl
  | some p=>
    obtain ⟨c,hc⟩:=h p (List.mem_of_find?_eq_some hf)
    simp [hc,n32]
theorem i32M_put {κ:Type} [DecidableEq κ] {es:Ents κ} (h:i32M es) (a:κ) (c:Int):i32M (putM es a [.int .i32 c]):=by
  induction es with
  | nil=>intro p hp;simp [putM] at hp;subst hp;exact ⟨c,rfl⟩
  | cons q es ih=>
    obtain ⟨b,w⟩:=q
    have h':i32M es:=fun p hp=>h p (by simp [hp])
    simp only [putM]
    split
    · intro p hp
      cases hp with
      | head=>exact ⟨c,rfl⟩
      | tail _ hp=>exact h' p hp
    · intro p hp
      cases hp with
      | head=>exact h _ (by simp)
      | tail _ hp=>exact ih h' p hp
structure PlanAt (B:List Obj) (o a b c:Nat) (v:HV) (S:Ents Str) (s1:List Nat × Nat) (F:Ents Clk) (s3:List Nat × Nat):Prop where
  ho:B[o]? = some (.cells [.map a,.map b,.map c,v])
  ha:B[a]? = some (mapO kS false S s1)
  hc:B[c]? = some (mapO kC false F s3)
  hS:i32M S
  hF:i32M F
def planOf (S:Ents Str) (F:Ents Clk):Plan:=⟨fun s=>n32 (getM S s),fun c=>n32 (getM F c)⟩
theorem PlanAt.more {B:List Obj} {o a b c:Nat} {v:HV} {S:Ents Str} {s1:List Nat × Nat} {F:Ents Clk} {s3:List Nat × Nat} (h:PlanAt B o a b c v S s1 F s3) (X:List Obj):PlanAt (B ++ X) o a b c v S s1 F s3:=by
  have key:∀ {i:Nat} {x:Obj},B[i]? = some x→(B ++ X)[i]? = some x:=fun {i x} h=>by
    rw [List.getElem?_append_left (lt_of_some h)];exact h
  exact ⟨key h.ho,key h.ha,key h.hc,h.hS,h.hF⟩
def ExprOk (o:Nat) (S:Ents Str) (F:Ents Clk) (x:Ex):Prop:=
  ∀ (B:List Obj) (T:List Nat) (lw:Option Nat) (a b c:Nat) (v:HV) (s1 s3:List Nat × Nat),PlanAt B o a b c v S s1 F s3→∀ k:Clk,
    CallsA prg 170 [.ref o 0,exV x,clkV k] ⟨B,T,lw⟩ (.d (insV (codeE (planOf S F) x k))) ⟨B,T,lw⟩
theorem part_c {o:Nat} {S:Ents Str} {F:Ents Clk} {y:Ex} (hy:ExprOk o S F y) (x:Ex) (i:Nat) (hi:x.sub[i]? = some y) (k:Clk) (B:List Obj) (T:List Nat) (lw:Option Nat) (a b c:Nat) (v:HV) (s1 s3:List Nat × Nat) (hp:PlanAt B o a b c v S s1 F s3) :
    CallsA prg 210 [.d (.int .i64 i),.ref B.length 0,.ref (B.length + 1) 0,.ref (B.length + 2) 0] ⟨B ++ [.cells [.ref o 0],cellsE x,.cells [.d (.int .i64 k.kind),.d (.str k.name)]],T,lw⟩
      (.d (insV (codeE (planOf S F) y k))) ⟨B ++ [.cells [.ref o 0],cellsE x,.cells [.d (.int .i64 k.kind),.d (.str k.name)]],T,lw⟩:=by
  have hc:=fun lw=>WCall_of (hy _ T lw a b c v s1 s3 (hp.more [.cells [.ref o 0],cellsE x,.cells [.d (.int .i64 k.kind),.d (.str k.name)]]) k)
  have e2:(encL x.sub)[i]? = some (encE y):=by rw [encL_at,hi];rfl
  unfold exV clkV at hc
  simp only [go_sem] at hc
  refine calls_of2 rfl f210 ?_
  simp only [go_sem,c210,e2,hc]
end Am
namespace Am
open Go C
theorem row2 (x y:List Ins) (h:x.length ≤ 100000000) (h':y.length ≤ 100000000) (H:St):CallsA prg 167 [.own [[insV x],[insV y]] .exact] H (.d (insV (x ++ y))) H:=by
  have:=row_c [x,y] (by simp) (by simp;omega) H
  simpa using this
theorem row3 (x y z:List Ins) (h:x.length ≤ 100000000) (h':y.length ≤ 100000000) (h2:z.length ≤ 100000000) (H:St):CallsA prg 167 [.own [[insV x],[insV y],[insV z]] .exact] H (.d (insV (x ++ (y ++ z)))) H:=by
  have:=row_c [x,y,z] (by simp) (by simp;omega) H
  simpa using this
theorem row4 (x y z w:List Ins) (h:x.length ≤ 100000000) (h':y.length ≤ 100000000) (h2:z.length ≤ 100000000) (h3:w.length ≤ 100000000) (H:St):CallsA prg 167 [.own [[insV x],[insV y],[insV z],[insV w]] .exact] H (.d (insV (x ++ (y ++ (z ++ w))))) H:=by
  have:=row_c [x,y,z,w] (by simp) (by simp;omega) H
  simpa using this
theorem clk0_kind:clk0.kind = 0:=rfl
theorem clk0_name:clk0.name = []:=rfl
set_option maxRecDepth 4000 in
theorem expr_ok (o:Nat) (S:Ents Str) (F:Ents Clk) {x:Ex} (h:Form x):x.size ≤ 1000→ExprOk o S F x:=by
  induction h with
  | num n=>
    intro hsz B T lw a b c v s1 s3 hp k
    have h1:=fun a b H=>WCall_of (one_c a b H)
    rw [codeE_num]
    refine calls_of2 rfl f170 ?_
    unfold exV clkV
    simp only [go_sem,c170,h1]
  | bool n=>
    intro hsz B T lw a b c v s1 s3 hp k
    have h1:=fun a b H=>WCall_of (one_c a b H)
    rw [codeE_bool]
    refine calls_of2 rfl f170 ?_
    unfold exV clkV
    simp only [go_sem,c170,h1]
  | var nm=>
    intro hsz B T lw a b c v s1 s3 hp k
    have h1:=fun a b H=>WCall_of (one_c a b H)
    have hm:=hp.more [.cells [.ref o 0],cellsE (.mk 3 0 nm []),.cells [.d (.int .i64 k.kind),.d (.str k.name)]]
    have ho:=hm.ho
    have ha:=hm.ha
    have hc:=hm.hc
    simp only [go_sem] at ho ha hc
    have hg:=i32M_get hp.hS nm
    rw [codeE_var]
    refine calls_of2 rfl f170 ?_
    unfold exV clkV
    simp only [go_sem,c170,h1,ho,ha,hg]
    rfl
  | un n x hn hx ih=>
    intro hsz B T lw a b c v s1 s3 hp k
    rw [Ex.size_eq,Ex.sub_mk,sizeL_cons,sizeL_nil] at hsz
    have hl0:=code_len (planOf S F) hx k
    have h1:=fun a b H=>WCall_of (one_c a b H)
    have hr:=fun H=>WCall_of (row2 (codeE (planOf S F) x k) [⟨8,n⟩] (by omega) (by simp) H)
    have p0:=fun lw=>WCall_of (part_c (ih (by omega)) (.mk 4 n [] [x]) 0 rfl k B T lw a b c v s1 s3 hp)
    simp only [go_sem,Int.cast_ofNat_Int,Int.natCast_zero,Int.natCast_one] at p0
    rw [codeE_un]
    refine calls_of2 rfl f170 ?_
    unfold exV clkV
    simp only [go_sem,c170,h1,hr,p0]
  | bin n x y hn hn2 hx hy ihx ihy=>
    intro hsz B T lw a b c v s1 s3 hp k
    rw [Ex.size_eq,Ex.sub_mk,sizeL_cons,sizeL_cons,sizeL_nil] at hsz
    have hl0:=code_len (planOf S F) hx k
    have hl1:=code_len (planOf S F) hy k
    have h1:=fun a b H=>WCall_of (one_c a b H)
    have hr:=fun H=>WCall_of (row3 (codeE (planOf S F) x k) (codeE (planOf S F) y k) [⟨9,n⟩] (by omega) (by omega) (by simp) H)
    have p0:=fun lw=>WCall_of (part_c (ihx (by omega)) (.mk 5 n [] [x,y]) 0 rfl k B T lw a b c v s1 s3 hp)
    simp only [go_sem,Int.cast_ofNat_Int,Int.natCast_zero,Int.natCast_one] at p0
    have p1:=fun lw=>WCall_of (part_c (ihy (by omega)) (.mk 5 n [] [x,y]) 1 rfl k B T lw a b c v s1 s3 hp)
    simp only [go_sem,Int.cast_ofNat_Int,Int.natCast_zero,Int.natCast_one] at p1
    rw [codeE_bin]
    refine calls_of2 rfl f170 ?_
    unfold exV clkV
    simp only [go_sem,c170,h1,hr,p0,p1]
  | cond x y z hx hy hz ihx ihy ihz=>
    intro hsz B T lw a b c v s1 s3 hp k
    rw [Ex.size_eq,Ex.sub_mk,sizeL_cons,sizeL_cons,sizeL_cons,sizeL_nil] at hsz
    have hl0:=code_len (planOf S F) hx k
    have hl1:=code_len (planOf S F) hy k
    have hl2:=code_len (planOf S F) hz k
    have h1:=fun a b H=>WCall_of (one_c a b H)
    have hr:=fun H=>WCall_of (choice_c (codeE (planOf S F) x k) (codeE (planOf S F) y k) (codeE (planOf S F) z k) (by omega) (by omega) (by omega) H)
    have p0:=fun lw=>WCall_of (part_c (ihx (by omega)) (.mk 6 0 [] [x,y,z]) 0 rfl k B T lw a b c v s1 s3 hp)
    simp only [go_sem,Int.cast_ofNat_Int,Int.natCast_zero,Int.natCast_one] at p0
    have p1:=fun lw=>WCall_of (part_c (ihy (by omega)) (.mk 6 0 [] [x,y,z]) 1 rfl k B T lw a b c v s1 s3 hp)
    simp only [go_sem,Int.cast_ofNat_Int,Int.natCast_zero,Int.natCast_one] at p1
    have p2:=fun lw=>WCall_of (part_c (ihz (by omega)) (.mk 6 0 [] [x,y,z]) 2 rfl k B T lw a b c v s1 s3 hp)
    simp only [go_sem,Int.cast_ofNat_Int,Int.natCast_zero,Int.natCast_one] at p2
    rw [codeE_if]
    refine calls_of2 rfl f170 ?_
    unfold exV clkV
    simp only [go_sem,c170,h1,hr,p0,p1,p2]
  | arrow x y hx hy ihx ihy=>
    intro hsz B T lw a b c v s1 s3 hp k
    rw [Ex.size_eq,Ex.sub_mk,sizeL_cons,sizeL_cons,sizeL_nil] at hsz
    have hl0:=code_len (planOf S F) hx k
    have hl1:=code_len (planOf S F) hy k
    have h1:=fun a b H=>WCall_of (one_c a b H)
    have hm:=hp.more [.cells [.ref o 0],cellsE (.mk 7 0 [] [x,y]),.cells [.d (.int .i64 k.kind),.d (.str k.name)]]
    have ho:=hm.ho
    have ha:=hm.ha
    have hc:=hm.hc
    simp only [go_sem] at ho ha hc
    have hg:=i32M_get hp.hF k
    have hr:=fun H=>WCall_of (choice_c [⟨4,n32 (getM F k)⟩] (codeE (planOf S F) y k) (codeE (planOf S F) x k) (by simp) (by omega) (by omega) H)
    have p0:=fun lw=>WCall_of (part_c (ihx (by omega)) (.mk 7 0 [] [x,y]) 0 rfl k B T lw a b c v s1 s3 hp)
    simp only [go_sem,Int.cast_ofNat_Int,Int.natCast_zero,Int.natCast_one] at p0
    have p1:=fun lw=>WCall_of (part_c (ihy (by omega)) (.mk 7 0 [] [x,y]) 1 rfl k B T lw a b c v s1 s3 hp)
    simp only [go_sem,Int.cast_ofNat_Int,Int.natCast_zero,Int.natCast_one] at p1
    rw [codeE_arrow]
    refine calls_of2 rfl f170 ?_
    unfold exV clkV
    simp only [go_sem,c170,h1,hr,p0,p1,ho,hc,hg]
    rfl
  | when_ nm x hn hx ih=>
    intro hsz B T lw a b c v s1 s3 hp k
    rw [Ex.size_eq,Ex.sub_mk,sizeL_cons,sizeL_nil] at hsz
    have hm:=hp.more [.cells [.ref o 0],cellsE (.mk 8 0 nm [x]),.cells [.d (.int .i64 k.kind),.d (.str k.name)]]
    have ho:=hm.ho
    have ha:=hm.ha
    have hc:=hm.hc
    simp only [go_sem] at ho ha hc
    have q0:=fun lw=>WCall_of (ih (by omega) _ T lw a b c v s1 s3 hm clk0)
    unfold exV clkV at q0
    simp only [go_sem,clk0_kind,clk0_name] at q0
    rw [codeE_when]
    refine calls_of2 rfl f170 ?_
    unfold exV clkV
    simp only [go_sem,c170,q0]
  | unless_ nm x hn hx ih=>
    intro hsz B T lw a b c v s1 s3 hp k
    rw [Ex.size_eq,Ex.sub_mk,sizeL_cons,sizeL_nil] at hsz
    have hm:=hp.more [.cells [.ref o 0],cellsE (.mk 9 0 nm [x]),.cells [.d (.int .i64 k.kind),.d (.str k.name)]]
    have ho:=hm.ho
    have ha:=hm.ha
    have hc:=hm.hc
    simp only [go_sem] at ho ha hc
    have q0:=fun lw=>WCall_of (ih (by omega) _ T lw a b c v s1 s3 hm clk0)
    unfold exV clkV at q0
    simp only [go_sem,clk0_kind,clk0_name] at q0
    rw [codeE_unless]
    refine calls_of2 rfl f170 ?_
    unfold exV clkV
    simp only [go_sem,c170,q0]
  | merge nm x y hn hx hy ihx ihy=>
    intro hsz B T lw a b c v s1 s3 hp k
    rw [Ex.size_eq,Ex.sub_mk,sizeL_cons,sizeL_cons,sizeL_nil] at hsz
    have hl0:=code_len (planOf S F) hx ⟨1,nm⟩
    have hl1:=code_len (planOf S F) hy ⟨2,nm⟩
    have h1:=fun a b H=>WCall_of (one_c a b H)
    have hm:=hp.more [.cells [.ref o 0],cellsE (.mk 10 0 nm [x,y]),.cells [.d (.int .i64 k.kind),.d (.str k.name)]]
    have ho:=hm.ho
    have ha:=hm.ha
    have hc:=hm.hc
    simp only [go_sem] at ho ha hc
    have hg:=i32M_get hp.hS nm
    have hr:=fun H=>WCall_of (choice_c [⟨2,n32 (getM S nm)⟩] (codeE (planOf S F) x ⟨1,nm⟩) (codeE (planOf S F) y ⟨2,nm⟩) (by simp) (by omega) (by omega) H)
    have q0:=fun lw=>WCall_of (ihx (by omega) _ T lw a b c v s1 s3 hm ⟨1,nm⟩)
    unfold exV clkV at q0
    simp only [go_sem] at q0
    have q1:=fun lw=>WCall_of (ihy (by omega) _ T lw a b c v s1 s3 hm ⟨2,nm⟩)
    unfold exV clkV at q1
    simp only [go_sem] at q1
    rw [codeE_merge]
    refine calls_of2 rfl f170 ?_
    unfold exV clkV
    simp only [go_sem,c170,h1,hr,q0,q1,ho,ha,hg]
    rfl
end Am
