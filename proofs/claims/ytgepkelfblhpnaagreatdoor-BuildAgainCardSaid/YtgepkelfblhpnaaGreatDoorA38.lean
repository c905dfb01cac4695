/- A part of the proof of BuildAgain: no condition of its own. Whence: AmRt4, AmBld1. -/
import Derived.Test.YtgepkelfblhpnaaGreatDoorA37
set_option linter.all false
namespace Am
open Go C
def clkT (c:Clk):List Tok:=if c.kind = 1 then [tWord wWhen,tName c.name] else if c.kind = 2 then [tWord wUnless,tName c.name] else []
def decT (v:Var):List Tok:=[tName v.name,tMark wColon,tWord (if v.ty = 2 then wBool else wInt)]
def declaredT (v:Var):List Tok:=decT v ++ clkT v.clk
def restT (l:List Var):List Tok:=(l.map fun v=>tMark wSemi :: declaredT v).flatten
def listT (l:List Var):List Tok:=tMark wOpen :: ((match l with | []=>[] | v :: vs=>declaredT v ++ restT vs) ++ [tMark wClose])
def ownTk (v:Var):List Tok:=declaredT v ++ [tMark wSemi]
def eqTk (q:Eqn):List Tok:=tName q.name :: tMark wIs :: ((if q.delay = 1 then showT q.first ++ [tWord wFby] else if q.delay = 2 then [tWord wPre] else []) ++ (showT q.e ++ [tMark wSemi]))
def progT (p:Prog):List Tok:=
  tWord wNode :: tName p.name :: (listT p.ins ++ (tWord wReturns :: (listT p.outs ++ (tMark wSemi :: ((if p.locals = [] then [] else [tWord wVar]) ++ ((p.locals.map ownTk).flatten ++ (tWord wLet :: ((p.eqs.map eqTk).flatten ++ [tWord wTel]))))))))
theorem LexE.app {a b:Str} {x y:List Tok} (h1:∀ r ts,stopB r→LexTo (b ++ r) ts→LexTo (a ++ (b ++ r)) (x ++ ts)) (h2:LexE b y):LexE (a ++ b) (x ++ y):=by
  intro r ts hr hl
  rw [List.append_assoc,List.append_assoc]
  exact h1 r _ hr (h2 r ts hr hl)
theorem variable_ok {v:Var} {own:Bool} (h:variableS v own = true):nameS v.name = true ∧ (v.ty = 1 ∨ v.ty = 2) ∧ (v.clk = ⟨0,[]⟩ ∨ (own = true ∧ (v.clk.kind = 1 ∨ v.clk.kind = 2) ∧ nameS v.clk.name = true)):=by
  simp only [variableS,Bool.and_eq_true,decide_eq_true_eq] at h
  obtain ⟨h1,h2,h3⟩:=h
  refine ⟨h1,h2,?_⟩
  split at h3
  · rename_i h0
    left
    have:v.clk.name = []:=by simpa using h3
    cases hc:v.clk
    rw [hc] at h0 this
    simp_all
  · split at h3
    · rename_i h0
      simp only [Bool.and_eq_true] at h3
      exact .inr ⟨h3.1,h0,h3.2⟩
    · cases h3
theorem declared_lex {v:Var} {own:Bool} (h:variableS v own = true):LexE (declaredS v) (declaredT v):=by
  obtain ⟨h1,h2,h3⟩:=variable_ok h
  intro r ts hr hl
  have hclk:LexTo ((if v.clk.kind = 1 then [32,119,104,101,110,32] ++ v.clk.name else if v.clk.kind = 2 then [32,117,110,108,101,115,115,32] ++ v.clk.name else []) ++ r) (clkT v.clk ++ ts) ∧
      stopB ((if v.clk.kind = 1 then [32,119,104,101,110,32] ++ v.clk.name else if v.clk.kind = 2 then [32,117,110,108,101,115,115,32] ++ v.clk.name else []) ++ r):=by
    unfold clkT
    rcases h3 with h3 | ⟨_,h3 | h3,h4⟩
    · rw [h3];exact ⟨hl,hr⟩
    · rw [if_pos h3,if_pos h3]
      refine ⟨?_,stop_sp _⟩
      have:=lex_sp (lexE_word (w:=wWhen) (by decide) _ _ (stop_sp _) (lex_sp (lexE_name h4 r ts hr hl)))
      simpa using this
    · rw [if_neg (by omega),if_pos h3,if_neg (by omega),if_pos h3]
      refine ⟨?_,stop_sp _⟩
      have:=lex_sp (lexE_word (w:=wUnless) (by decide) _ _ (stop_sp _) (lex_sp (lexE_name h4 r ts hr hl)))
      simpa using this
  unfold declaredS declaredT decT
  rw [List.append_assoc,List.append_assoc]
  generalize (if v.clk.kind = 1 then [32,119,104,101,110,32] ++ v.clk.name else if v.clk.kind = 2 then [32,117,110,108,101,115,115,32] ++ v.clk.name else []) ++ r = q at hclk
  obtain ⟨hq,hs⟩:=hclk
  have hcol:∀ (s:Str) (t:List Tok),LexTo (32 :: s) t→LexTo (58 :: 32 :: s) (tMark [58] :: t):=fun s t h=>lex_mark1 (by decide) (by decide) (fun d r' he=>by
    simp only [List.cons.injEq] at he;rw [← he.1];decide) (by simp) h
  have hname:=lexE_name h1
  by_cases hb:v.ty = 2
  · rw [if_pos hb,if_pos hb]
    have e1:=lexE_word (w:=wBool) (by decide) _ _ hs hq
    have e2:=hname _ _ (stop_sp _) (lex_sp (hcol _ _ (lex_sp e1)))
    simpa using e2
  · rw [if_neg hb,if_neg hb]
    have e1:=lexE_word (w:=wInt) (by decide) _ _ hs hq
    have e2:=hname _ _ (stop_sp _) (lex_sp (hcol _ _ (lex_sp e1)))
    simpa using e2
theorem rest_lex {own:Bool}:∀ {l:List Var},l.all (variableS · own) = true→∀ r ts,stopB r→LexTo r ts→LexTo (restS2 l ++ r) (restT l ++ ts) ∧ stopB (restS2 l ++ r)
  | [],_,r,ts,hr,hl=>⟨hl,hr⟩
  | v :: l,h,r,ts,hr,hl=>by
    simp only [List.all_cons,Bool.and_eq_true] at h
    obtain ⟨h1,h2⟩:=rest_lex h.2 r ts hr hl
    have h3:=lex_semi (lex_sp (declared_lex h.1 _ _ h2 h1))
    unfold restS2 restT at h3 ⊢
    refine ⟨by simpa using h3,stop_semi _⟩
theorem list_lex {own:Bool} {l:List Var} (h:l.all (variableS · own) = true):∀ r ts,LexTo r ts→LexTo (listS l ++ r) (listT l ++ ts):=by
  intro r ts hl
  unfold listS listT
  cases l with
  | nil=>exact lex_open (lex_close hl)
  | cons v l=>
    simp only [List.all_cons,Bool.and_eq_true] at h
    obtain ⟨h1,h2⟩:=rest_lex h.2 (41 :: r) _ (stop_close r) (lex_close hl)
    have h3:=lex_open (declared_lex h.1 _ _ h2 h1)
    simpa using h3
theorem owns_lex:∀ {l:List Var},l.all (variableS · true) = true→∀ r ts,LexTo r ts→LexTo ((l.map ownS).flatten ++ r) ((l.map ownTk).flatten ++ ts)
  | [],_,r,ts,hl=>hl
  | v :: l,h,r,ts,hl=>by
    simp only [List.all_cons,Bool.and_eq_true] at h
    have h1:=lex_nl (owns_lex h.2 r ts hl)
    have h2:=lex_sp (lex_sp (declared_lex h.1 _ _ (stop_semi _) (lex_semi h1)))
    simpa [ownS,ownTk] using h2
theorem same_ex0 {x:Ex} (h:sameE x ex0 = true):x = ex0:=by
  rw [sameE_eq] at h
  simp only [Bool.and_eq_true,beq_iff_eq] at h
  obtain ⟨k,n,nm,l⟩:=x
  simp only [ex0,Ex.kind_mk,Ex.n_mk,Ex.name_mk,Ex.sub_mk] at h ⊢
  obtain ⟨rfl,rfl,rfl,h⟩:=h
  have:=sameL_len h
  rw [List.length_eq_zero_iff.1 this]
theorem literal_form {x:Ex} (h:literalS x = true):Form x ∧ ((∃ n,x = .mk 1 n [] []) ∨ (∃ n,x = .mk 2 n [] []) ∨ ∃ n,x = .mk 4 1 [] [.mk 1 n [] []]):=by
  simp only [literalS,Bool.and_eq_true,decide_eq_true_eq] at h
  obtain ⟨h1,h2⟩:=h
  have hf:=form_of _ x (Nat.le_refl _) (right_formed h1)
  refine ⟨hf,?_⟩
  cases hf with
  | num n=>exact .inl ⟨n,rfl⟩
  | bool n=>exact .inr (.inl ⟨n,rfl⟩)
  | un n a hn ha=>
    by_cases h3:n = 1
    · subst h3
      rw [if_pos ⟨rfl,rfl⟩] at h2
      simp only [Ex.sub_mk] at h2
      cases ha with
      | num m=>exact .inr (.inr ⟨m,rfl⟩)
      | _=>exact absurd h2 (by simp [Ex.kind])
    · rw [if_neg (by simp [Ex.kind,Ex.n,h3])] at h2
      exact absurd h2 (by simp [Ex.kind])
  | _=>rw [if_neg (by simp [Ex.kind])] at h2;exact absurd h2 (by simp [Ex.kind])
theorem eq_lex {q:Eqn} (h:eqOkS q = true):∀ r ts,LexTo r ts→LexTo (eqS q ++ r) (eqTk q ++ ts):=by
  intro r ts hl
  simp only [eqOkS,Bool.and_eq_true,decide_eq_true_eq] at h
  obtain ⟨h1,h2,h3⟩:=h
  have hf:=form_of _ q.e (Nat.le_refl _) (right_formed h2)
  have e1:=show_lex hf _ _ (stop_semi _) (lex_semi (lex_nl hl))
  have hmid:LexTo ((if q.delay = 1 then showE q.first ++ [32,102,98,121,32] else if q.delay = 2 then [112,114,101,32] else []) ++ (showE q.e ++ 59 :: 10 :: r))
      ((if q.delay = 1 then showT q.first ++ [tWord wFby] else if q.delay = 2 then [tWord wPre] else []) ++ (showT q.e ++ tMark [59] :: ts)):=by
    split
    · rename_i hd
      rw [if_pos hd] at h3
      have:=show_lex (literal_form h3).1 _ _ (stop_sp _) (lex_sp (lexE_word (w:=wFby) (by decide) _ _ (stop_sp _) (lex_sp e1)))
      simpa using this
    · split
      · have:=lexE_word (w:=wPre) (by decide) _ _ (stop_sp _) (lex_sp e1)
        simpa using this
      · exact e1
  have hcol:∀ (s:Str) (t:List Tok),LexTo (32 :: s) t→LexTo (61 :: 32 :: s) (tMark [61] :: t):=fun s t h=>lex_mark1 (by decide) (by decide) (fun d r' he=>by
    simp only [List.cons.injEq] at he;rw [← he.1];decide) (by simp) h
  have e2:=lex_sp (lex_sp (lexE_name h1 _ _ (stop_sp _) (lex_sp (hcol _ _ (lex_sp hmid)))))
  unfold eqS eqTk
  simpa using e2
theorem eqs_lex:∀ {l:List Eqn},l.all eqOkS = true→∀ r ts,LexTo r ts→LexTo ((l.map eqS).flatten ++ r) ((l.map eqTk).flatten ++ ts)
  | [],_,r,ts,hl=>hl
  | q :: l,h,r,ts,hl=>by
    simp only [List.all_cons,Bool.and_eq_true] at h
    have:=eq_lex h.1 _ _ (eqs_lex h.2 r ts hl)
    simpa using this
theorem text_lex {p:Prog} (h:wholeS p = true):LexTo (textS p) (progT p):=by
  simp only [wholeS,Bool.and_eq_true] at h
  obtain ⟨h1,h2,h3,h4,h5⟩:=h
  have e0:=lexE_word (w:=wTel) (by decide) _ _ (stop_nl _) (lex_nl lex_nil)
  have e1:=lexE_word (w:=wLet) (by decide) _ _ (stop_nl _) (lex_nl (eqs_lex h5 _ _ e0))
  have e2:=owns_lex h4 _ _ e1
  have e3:LexTo ((if p.locals = [] then [] else [118,97,114,10]) ++ ((p.locals.map ownS).flatten ++ (wLet ++ 10 :: ((p.eqs.map eqS).flatten ++ (wTel ++ [10])))))
      ((if p.locals = [] then [] else [tWord wVar]) ++ ((p.locals.map ownTk).flatten ++ ([tWord wLet] ++ ((p.eqs.map eqTk).flatten ++ ([tWord wTel] ++ []))))):=by
    split
    · exact e2
    · have:=lexE_word (w:=wVar) (by decide) _ _ (stop_nl _) (lex_nl e2)
      simpa using this
  have e4:=list_lex h3 _ _ (lex_semi (lex_nl e3))
  have e5:=lexE_word (w:=wReturns) (by decide) _ _ (stop_sp _) (lex_sp e4)
  have e6:=list_lex h2 _ _ (lex_sp e5)
  have e7:=lexE_name h1 _ _ (stop_sp _) (lex_sp e6)
  have e8:=lexE_word (w:=wNode) (by decide) _ _ (stop_sp _) (lex_sp e7)
  unfold textS bodyText headText progT
  simpa using e8
theorem dec_at {l:List Tok} {i:Nat} {v:Var} {ts:List Tok} (hv:v.ty = 1 ∨ v.ty = 2) (h:At l i (decT v ++ ts)):declP l ⟨i,false⟩ = ⟨i + 3,false⟩ ∧ declT l ⟨i,false⟩ = ⟨v.name,v.ty,⟨0,[]⟩⟩:=by
  unfold decT at h
  simp only [List.cons_append,List.nil_append] at h
  obtain ⟨h1,_⟩:=aT_step h
  obtain ⟨h2,_⟩:=aT_step h1
  obtain ⟨e1,e2⟩:=name_at h
  have s1:seesP l wColon ⟨i + 1,false⟩ = true:=by rw [sees_at h1];rfl
  unfold declP declT
  simp only [e1,e2,need_at s1]
  have hb:seesP l wBool ⟨i + 1 + 1,false⟩ = decide (v.ty = 2):=by
    rw [sees_at h2]
    by_cases h3:v.ty = 2
    · rw [if_pos h3,decide_eq_true h3];rfl
    · rw [if_neg h3,decide_eq_false h3];rfl
  rw [hb]
  by_cases h3:v.ty = 2
  · rw [decide_eq_true h3] at hb ⊢
    refine ⟨?_,?_⟩
    · rw [if_pos rfl,take_at hb]
    · rw [if_pos rfl,h3]
  · rw [decide_eq_false h3]
    have hi:seesP l wInt ⟨i + 1 + 1,false⟩ = true:=by rw [sees_at h2,if_neg h3];rfl
    refine ⟨?_,?_⟩
    · rw [if_neg (by simp),need_at hi]
    · rw [if_neg (by simp)]
      rw [show v.ty = 1 by omega]
theorem clk0_of {v:Var} (h:variableS v false = true):declaredT v = decT v ∧ v = ⟨v.name,v.ty,⟨0,[]⟩⟩:=by
  obtain ⟨_,_,h3⟩:=variable_ok h
  rcases h3 with h3 | ⟨h3,_⟩
  · refine ⟨?_,?_⟩
    · unfold declaredT;rw [h3];simp [clkT]
    · cases v;simp only [Var.mk.injEq,true_and];exact h3
  · cases h3
theorem more_at {l:List Tok}:∀ {vs:List Var} {i:Nat} {ts:List Tok},vs.all (variableS · false) = true→At l i (restT vs ++ ts)→seesL wSemi ts = false→moreP l ⟨i,false⟩ = (vs,⟨i + (restT vs).length,false⟩)
  | [],i,ts,_,h,hs=>by
    rw [moreP_eq,sees_at (ts:=ts) (by simpa [restT] using h),hs];rfl
  | v :: vs,i,ts,hv,h,hs=>by
    simp only [List.all_cons,Bool.and_eq_true] at hv
    obtain ⟨hd,hve⟩:=clk0_of hv.1
    have hr:restT (v :: vs) = tMark wSemi :: (decT v ++ restT vs):=by unfold restT;simp [hd]
    rw [hr] at h ⊢
    rw [List.cons_append,List.append_assoc] at h
    have s0:seesP l wSemi ⟨i,false⟩ = true:=by rw [sees_at h];rfl
    obtain ⟨h1,_⟩:=aT_step h
    obtain ⟨e1,e2⟩:=dec_at (variable_ok hv.1).2.1 h1
    have:=more_at hv.2 (aT_app h1) hs
    rw [moreP_eq,s0,if_pos rfl,take_at s0,e1,e2]
    have h3:(decT v).length = 3:=rfl
    rw [h3] at this
    rw [this,← hve]
    simp only [List.length_cons,List.length_append,h3]
    congr 2;omega
theorem list_at {l:List Tok} {vs:List Var} {i:Nat} {ts:List Tok} (hv:vs.all (variableS · false) = true) (h:At l i (listT vs ++ ts)):declsT l ⟨i,false⟩ = vs ∧ declsP l ⟨i,false⟩ = ⟨i + (listT vs).length,false⟩:=by
  unfold listT at h ⊢
  rw [List.cons_append] at h
  have s0:seesP l wOpen ⟨i,false⟩ = true:=by rw [sees_at h];rfl
  obtain ⟨h1,_⟩:=aT_step h
  unfold declsT declsP
  simp only [need_at s0]
  cases vs with
  | nil=>
    have s1:seesP l wClose ⟨i + 1,false⟩ = true:=by rw [sees_at h1];rfl
    rw [s1,if_pos rfl,if_pos rfl,take_at s1]
    exact ⟨rfl,rfl⟩
  | cons v vs=>
    simp only [List.all_cons,Bool.and_eq_true] at hv
    obtain ⟨hd,hve⟩:=clk0_of hv.1
    dsimp only at h1 ⊢
    rw [hd] at h1 ⊢
    have h2:At l (i + 1) (decT v ++ (restT vs ++ (tMark wClose :: ts))):=by simpa using h1
    have s1:seesP l wClose ⟨i + 1,false⟩ = false:=by rw [sees_at h2];rfl
    obtain ⟨e1,e2⟩:=dec_at (variable_ok hv.1).2.1 h2
    have h3:(decT v).length = 3:=rfl
    have h4:=aT_app h2
    rw [h3] at h4
    have e3:=more_at hv.2 h4 rfl
    have h5:=aT_app h4
    have s2:seesP l wClose ⟨i + 1 + 3 + (restT vs).length,false⟩ = true:=by rw [sees_at h5];rfl
    rw [s1,if_neg (by simp),if_neg (by simp),e1,e2,e3,need_at s2,← hve]
    refine ⟨rfl,?_⟩
    simp only [List.length_cons,List.length_append,h3,List.length_nil]
    congr 1;omega
theorem own_at {l:List Tok} {v:Var} {i:Nat} {ts:List Tok} (hv:variableS v true = true) (h:At l i (ownTk v ++ ts)):ownT l ⟨i,false⟩ = v ∧ ownP l ⟨i,false⟩ = ⟨i + (ownTk v).length,false⟩:=by
  obtain ⟨_,hty,h3⟩:=variable_ok hv
  unfold ownTk declaredT at h ⊢
  have h1:At l i (decT v ++ (clkT v.clk ++ (tMark wSemi :: ts))):=by simpa using h
  obtain ⟨e1,e2⟩:=dec_at hty h1
  have hl3:(decT v).length = 3:=rfl
  have h2:=aT_app h1
  rw [hl3] at h2
  unfold ownT ownP
  rw [e1,e2]
  rcases h3 with h3 | ⟨_,h3,hn⟩
  · have hz:clkT v.clk = []:=by rw [h3];rfl
    rw [hz,List.nil_append] at h2
    have s1:seesP l wWhen ⟨i + 3,false⟩ = false:=by rw [sees_at h2];rfl
    have s2:seesP l wUnless ⟨i + 3,false⟩ = false:=by rw [sees_at h2];rfl
    have s3:seesP l wSemi ⟨i + 3,false⟩ = true:=by rw [sees_at h2];rfl
    unfold ownClk ownEnd
    simp only [s1,s2,Bool.false_eq_true,if_false,need_at s3,hz,List.length_append,hl3]
    refine ⟨?_,rfl⟩
    cases v;simp only [Var.mk.injEq,true_and];exact h3.symm
  · rcases h3 with h3 | h3
    · have hz:clkT v.clk = [tWord wWhen,tName v.clk.name]:=by unfold clkT;rw [if_pos h3]
      rw [hz] at h2 ⊢
      simp only [List.cons_append,List.nil_append] at h2
      have s1:seesP l wWhen ⟨i + 3,false⟩ = true:=by rw [sees_at h2];rfl
      obtain ⟨h4,_⟩:=aT_step h2
      obtain ⟨h5,_⟩:=aT_step h4
      obtain ⟨e3,e4⟩:=name_at h4
      have s3:seesP l wSemi ⟨i + 3 + 1 + 1,false⟩ = true:=by rw [sees_at h5];rfl
      unfold ownClk ownEnd
      simp only [s1,if_true,take_at s1,e3,e4,need_at s3,List.length_append,hl3,List.length_cons,List.length_nil]
      refine ⟨?_,trivial⟩
      cases v with
      | mk a b c=>cases c;simp only at h3;subst h3;rfl
    · have hz:clkT v.clk = [tWord wUnless,tName v.clk.name]:=by unfold clkT;rw [if_neg (by omega),if_pos h3]
      rw [hz] at h2 ⊢
      simp only [List.cons_append,List.nil_append] at h2
      have s0:seesP l wWhen ⟨i + 3,false⟩ = false:=by rw [sees_at h2];rfl
      have s1:seesP l wUnless ⟨i + 3,false⟩ = true:=by rw [sees_at h2];rfl
      obtain ⟨h4,_⟩:=aT_step h2
      obtain ⟨h5,_⟩:=aT_step h4
      obtain ⟨e3,e4⟩:=name_at h4
      have s3:seesP l wSemi ⟨i + 3 + 1 + 1,false⟩ = true:=by rw [sees_at h5];rfl
      unfold ownClk ownEnd
      simp only [s0,s1,Bool.false_eq_true,if_false,if_true,take_at s1,e3,e4,need_at s3,List.length_append,hl3,List.length_cons,List.length_nil]
      refine ⟨?_,trivial⟩
      cases v with
      | mk a b c=>cases c;simp only at h3;subst h3;rfl
theorem name_seesL (nm w:Str) (ts:List Tok):seesL w (tName nm :: ts) = false:=rfl
theorem own_sees {v:Var} (ts:List Tok) (w:Str):seesL w (ownTk v ++ ts) = false:=rfl
theorem owns_at {l:List Tok}:∀ {vs:List Var} {i:Nat} {ts:List Tok},vs.all (variableS · true) = true→At l i ((vs.map ownTk).flatten ++ (tWord wLet :: ts))→ownsP l ⟨i,false⟩ = (vs,⟨i + ((vs.map ownTk).flatten).length,false⟩)
  | [],i,ts,_,h=>by
    have s0:seesP l wLet ⟨i,false⟩ = true:=by rw [sees_at h];rfl
    rw [ownsP_eq,s0];rfl
  | v :: vs,i,ts,hv,h=>by
    simp only [List.all_cons,Bool.and_eq_true] at hv
    rw [List.map_cons,List.flatten_cons,List.append_assoc] at h
    have s0:seesP l wLet ⟨i,false⟩ = false:=by rw [sees_at h];rfl
    obtain ⟨e1,e2⟩:=own_at hv.1 h
    have:=owns_at hv.2 (aT_app h)
    rw [ownsP_eq,s0,if_pos (show (!false && !false) = true from rfl),e1,e2,this]
    simp only [List.map_cons,List.flatten_cons,List.length_append]
    congr 2;omega
theorem show_calm {x:Ex} (h:Form x):∀ t ∈ showT x,seesT wFby t = false ∧ seesT wPre t = false:=by
  have hpart:∀ y:Ex,(∀ t ∈ showT y,seesT wFby t = false ∧ seesT wPre t = false)→∀ t ∈ partT y,seesT wFby t = false ∧ seesT wPre t = false:=by
    intro y hy t ht
    cases hk:atomK y.kind with
    | true=>rw [partT_atom hk] at ht;exact hy t ht
    | false=>
      rw [partT_not hk] at ht
      simp only [List.mem_append,List.mem_singleton] at ht
      rcases ht with (rfl | ht) | rfl
      · exact ⟨rfl,rfl⟩
      · exact hy t ht
      · exact ⟨rfl,rfl⟩
  induction h with
  | num n h1 h2=>intro t ht;rw [showT_num,List.mem_singleton] at ht;subst ht;exact ⟨rfl,rfl⟩
  | bool n h=>intro t ht;rw [showT_bool,List.mem_singleton] at ht;subst ht;split <;> exact ⟨rfl,rfl⟩
  | var nm h=>intro t ht;rw [showT_var,List.mem_singleton] at ht;subst ht;exact ⟨rfl,rfl⟩
  | un n a h ha ih=>
    intro t ht
    rw [showT_un,List.mem_cons] at ht
    rcases ht with rfl | ht
    · split <;> exact ⟨rfl,rfl⟩
    · exact hpart a ih t ht
  | bin n a b h1 h2 ha hb iha ihb=>
    intro t ht
    rw [showT_bin,List.mem_append,List.mem_cons] at ht
    rcases ht with ht | rfl | ht
    · exact hpart a iha t ht
    · have key:∀ q:Fin 16,seesT wFby (tMark (markOfS (q.val + 1))) = false ∧ seesT wPre (tMark (markOfS (q.val + 1))) = false:=by decide
      have:=key ⟨(n - 1).toNat,by omega⟩
      rw [show (((n - 1).toNat:Nat):Int) + 1 = n by omega] at this
      exact this
    · exact hpart b ihb t ht
  | cond a b c ha hb hc iha ihb ihc=>
    intro t ht
    rw [showT_cond] at ht
    simp only [List.mem_append,List.mem_cons,List.cons_append] at ht
    rcases ht with rfl | (ht | rfl | ht) | rfl | ht
    · exact ⟨rfl,rfl⟩
    · exact iha t ht
    · exact ⟨rfl,rfl⟩
    · exact ihb t ht
    · exact ⟨rfl,rfl⟩
    · exact ihc t ht
  | arrow a b ha hb iha ihb=>
    intro t ht
    rw [showT_arrow,List.mem_append,List.mem_cons] at ht
    rcases ht with ht | rfl | ht
    · exact hpart a iha t ht
    · exact ⟨rfl,rfl⟩
    · exact hpart b ihb t ht
  | when_ nm a h ha ih=>
    intro t ht
    rw [showT_when] at ht
    simp only [List.mem_append,List.mem_cons,List.not_mem_nil,or_false] at ht
    rcases ht with ht | rfl | rfl
    · exact hpart a ih t ht
    · exact ⟨rfl,rfl⟩
    · exact ⟨rfl,rfl⟩
  | unless_ nm a h ha ih=>
    intro t ht
    rw [showT_unless] at ht
    simp only [List.mem_append,List.mem_cons,List.not_mem_nil,or_false] at ht
    rcases ht with ht | rfl | rfl
    · exact hpart a ih t ht
    · exact ⟨rfl,rfl⟩
    · exact ⟨rfl,rfl⟩
  | merge nm a b h ha hb iha ihb=>
    intro t ht
    rw [showT_merge] at ht
    simp only [List.mem_append,List.mem_cons] at ht
    rcases ht with rfl | rfl | ht | ht
    · exact ⟨rfl,rfl⟩
    · exact ⟨rfl,rfl⟩
    · exact hpart a iha t ht
    · exact hpart b ihb t ht
theorem aT_drop {l:List Tok} {i j:Nat} {ts:List Tok} (h:At l i ts):At l (i + j) (ts.drop j):=by
  unfold At at h ⊢
  rw [← List.drop_drop,List.map_drop,h]
theorem first_none {l:List Tok} {i:Nat} {x:Ex} {ts:List Tok} (hf:Form x) (h:At l i (showT x ++ tMark wSemi :: ts)):firstR l ⟨i,false⟩ = none:=by
  have calm:=show_calm hf
  generalize showT x = a at h calm
  have nofby:∀ j,j ≤ a.length→seesP l wFby ⟨i + j,false⟩ = false:=by
    intro j hj
    rw [sees_at (aT_drop (j:=j) h)]
    rw [List.drop_append_of_le_length hj]
    cases hd:a.drop j with
    | nil=>rfl
    | cons t r=>
      have:t ∈ a:=List.mem_of_mem_drop (i:=j) (by rw [hd];simp)
      exact (calm t this).1
  have inn:∀ j,j ≤ a.length→(isP l 2 ⟨i + j,false⟩ = true ∨ seesP l wTrue ⟨i + j,false⟩ = true ∨ seesP l wFalse ⟨i + j,false⟩ = true ∨ seesP l wMinus ⟨i + j,false⟩ = true)→j + 1 ≤ a.length:=by
    intro j hj hs
    by_cases hlt:j < a.length
    · omega
    · have hj2:j = a.length:=by omega
      subst hj2
      have h2:=aT_app h
      rw [is_at h2,sees_at h2,sees_at h2,sees_at h2] at hs
      rcases hs with hs | hs | hs | hs <;> exact absurd hs (by show ¬ false = true;decide)
  unfold firstR
  cases hm:seesP l wMinus ⟨i,false⟩ with
  | true=>
    have h1:=inn 0 (by omega) (.inr (.inr (.inr hm)))
    have hl:litR l ⟨i,false⟩ = none ∨ ∃ x' , litR l ⟨i,false⟩ = some (x',⟨i + 2,false⟩) ∧ 2 ≤ a.length:=by
      unfold litR
      simp only [take_at hm,hm,Bool.not_true,Bool.false_and,Bool.false_eq_true,if_false]
      split
      · rename_i h3
        have h4:=inn 1 h1 (.inl h3)
        have e5:tokenP l 2 ⟨i + 1,false⟩ = ⟨i + 2,false⟩:=by unfold tokenP;rw [if_pos h3]
        rw [e5]
        exact .inr ⟨_,rfl,h4⟩
      · exact .inl rfl
    rcases hl with hl | ⟨x',hl,h2⟩
    · rw [hl]
    · rw [hl]
      simp only [nofby 2 h2,Bool.false_eq_true,if_false]
  | false=>
    have htk:takeP l wMinus ⟨i,false⟩ = ⟨i,false⟩:=by unfold takeP;rw [hm];rfl
    have hl:litR l ⟨i,false⟩ = none ∨ ∃ x' , litR l ⟨i,false⟩ = some (x',⟨i + 1,false⟩) ∧ 1 ≤ a.length:=by
      unfold litR
      simp only [htk,hm,Bool.not_false,Bool.true_and]
      split
      · rename_i h3
        have h4:=inn 0 (by omega) (.inl h3)
        have e5:tokenP l 2 ⟨i,false⟩ = ⟨i + 1,false⟩:=by unfold tokenP;rw [if_pos h3]
        rw [e5]
        exact .inr ⟨_,rfl,h4⟩
      split
      · rename_i h3
        have h4:=inn 0 (by omega) (.inr (.inl h3))
        exact .inr ⟨_,by rw [take_at h3],h4⟩
      split
      · rename_i h3
        have h4:=inn 0 (by omega) (.inr (.inr (.inl h3)))
        exact .inr ⟨_,by rw [take_at h3],h4⟩
      · exact .inl rfl
    rcases hl with hl | ⟨x',hl,h2⟩
    · rw [hl]
    · rw [hl]
      simp only [nofby 1 h2,Bool.false_eq_true,if_false]
theorem first_some {l:List Tok} {i:Nat} {x:Ex} {ts:List Tok} (hx:literalS x = true) (h:At l i (showT x ++ tWord wFby :: ts)):firstR l ⟨i,false⟩ = some (x,⟨i + (showT x).length + 1,false⟩):=by
  obtain ⟨hf,hc⟩:=literal_form hx
  rcases hc with ⟨n,rfl⟩ | ⟨n,rfl⟩ | ⟨n,rfl⟩
  · rw [showT_num] at h ⊢
    simp only [List.cons_append,List.nil_append] at h
    obtain ⟨h1,_⟩:=aT_step h
    have s0:seesP l wMinus ⟨i,false⟩ = false:=by rw [sees_at h];rfl
    have s1:isP l 2 ⟨i,false⟩ = true:=by rw [is_at h];rfl
    have s2:seesP l wFby ⟨i + 1,false⟩ = true:=by rw [sees_at h1];rfl
    obtain ⟨e1,_,e3⟩:=token_at h (k:=2) rfl
    have htk:takeP l wMinus ⟨i,false⟩ = ⟨i,false⟩:=by unfold takeP;rw [s0];rfl
    unfold firstR litR
    simp only [htk,s1,if_true,e1,e3,s2,s0,Bool.false_eq_true,if_false,take_at s2]
    rfl
  · rw [showT_bool] at h ⊢
    have hn:n = 0 ∨ n = 1:=by cases hf;assumption
    simp only [List.cons_append,List.nil_append] at h
    obtain ⟨h1,_⟩:=aT_step h
    have s0:seesP l wMinus ⟨i,false⟩ = false:=by rw [sees_at h];rcases hn with rfl | rfl <;> rfl
    have s1:isP l 2 ⟨i,false⟩ = false:=by rw [is_at h];rfl
    have s2:seesP l wFby ⟨i + 1,false⟩ = true:=by rw [sees_at h1];rfl
    have htk:takeP l wMinus ⟨i,false⟩ = ⟨i,false⟩:=by unfold takeP;rw [s0];rfl
    rcases hn with rfl | rfl
    · have s3:seesP l wTrue ⟨i,false⟩ = false:=by rw [sees_at h];rfl
      have s4:seesP l wFalse ⟨i,false⟩ = true:=by rw [sees_at h];rfl
      unfold firstR litR
      simp only [htk,s1,s0,s3,s4,Bool.not_false,Bool.true_and,if_true,Bool.false_eq_true,if_false,take_at s4,s2,take_at s2]
      rfl
    · have s3:seesP l wTrue ⟨i,false⟩ = true:=by rw [sees_at h];rfl
      unfold firstR litR
      simp only [htk,s1,s0,s3,Bool.not_false,Bool.true_and,if_true,Bool.false_eq_true,if_false,take_at s3,s2,take_at s2]
      rfl
  · have hsh:showT (.mk 4 1 [] [.mk 1 n [] []]) = [tMark wMinus,tNum (digitsS n) n]:=by rw [showT_un,partT_atom rfl,showT_num];rfl
    rw [hsh] at h ⊢
    simp only [List.cons_append,List.nil_append] at h
    obtain ⟨h1,_⟩:=aT_step h
    obtain ⟨h2,_⟩:=aT_step h1
    have s0:seesP l wMinus ⟨i,false⟩ = true:=by rw [sees_at h];rfl
    have s1:isP l 2 ⟨i + 1,false⟩ = true:=by rw [is_at h1];rfl
    have s2:seesP l wFby ⟨i + 1 + 1,false⟩ = true:=by rw [sees_at h2];rfl
    obtain ⟨e1,_,e3⟩:=token_at h1 (k:=2) rfl
    unfold firstR litR
    simp only [take_at s0,s1,s0,if_true,e1,e3,s2,take_at s2]
    rfl
theorem eq_at {l:List Tok} {q:Eqn} {i:Nat} {ts:List Tok} (hq:eqOkS q = true) (h:At l i (eqTk q ++ ts)):eqT l ⟨i,false⟩ = q ∧ eqP l ⟨i,false⟩ = ⟨i + (eqTk q).length,false⟩:=by
  simp only [eqOkS,Bool.and_eq_true,decide_eq_true_eq] at hq
  obtain ⟨h1,h2,h3⟩:=hq
  have hf:=form_of _ q.e (Nat.le_refl _) (right_formed h2)
  unfold eqTk at h ⊢
  simp only [List.cons_append,List.append_assoc,List.nil_append] at h
  obtain ⟨a1,_⟩:=aT_step h
  obtain ⟨a2,_⟩:=aT_step a1
  obtain ⟨e1,e2⟩:=name_at h
  have s0:seesP l wIs ⟨i + 1,false⟩ = true:=by rw [sees_at a1];rfl
  have key:∃ j,eqAt l ⟨i,false⟩ = (q.delay,q.first,⟨j,false⟩) ∧ At l j (showT q.e ++ tMark wSemi :: ts) ∧ j + (showT q.e).length + 1 = i + (tName q.name :: tMark wIs :: ((if q.delay = 1 then showT q.first ++ [tWord wFby] else if q.delay = 2 then [tWord wPre] else []) ++ (showT q.e ++ [tMark wSemi]))).length:=by
    unfold eqAt
    rw [e1,need_at s0]
    unfold eqFirst
    by_cases d1:q.delay = 1
    · rw [if_pos d1] at a2 h3 ⊢
      rw [List.append_assoc] at a2
      simp only [List.cons_append,List.nil_append] at a2
      have hfst:=first_some h3 a2
      have hnp:seesP l wPre ⟨i + 1 + 1,false⟩ = false:=by
        rw [sees_at a2]
        have:=(literal_form h3).2
        rcases this with ⟨n,hx⟩ | ⟨n,hx⟩ | ⟨n,hx⟩ <;> rw [hx]
        · rw [showT_num];rfl
        · rw [showT_bool];split <;> rfl
        · rw [showT_un];rfl
      rw [hnp,if_neg (by simp),hfst]
      have a3:=aT_app a2
      obtain ⟨a4,_⟩:=aT_step a3
      refine ⟨_,by rw [d1],a4,?_⟩
      simp only [List.length_cons,List.length_append,List.length_nil];omega
    · rw [if_neg d1] at a2 h3 ⊢
      by_cases d2:q.delay = 2
      · rw [if_pos d2] at a2 ⊢
        rw [if_pos (.inr d2)] at h3
        simp only [List.cons_append,List.nil_append] at a2
        have s1:seesP l wPre ⟨i + 1 + 1,false⟩ = true:=by rw [sees_at a2];rfl
        obtain ⟨a4,_⟩:=aT_step a2
        rw [s1,if_pos rfl,take_at s1]
        refine ⟨_,by rw [d2,same_ex0 h3],a4,?_⟩
        simp only [List.length_cons,List.length_append,List.length_nil];omega
      · rw [if_neg d2] at a2 ⊢
        have d0:q.delay = 0:=by
          split at h3
          · omega
          · cases h3
        rw [if_pos (.inl d0)] at h3
        simp only [List.nil_append] at a2
        have hnp:seesP l wPre ⟨i + 1 + 1,false⟩ = false:=by
          rw [sees_at a2]
          have calm:=show_calm hf
          cases hsx:showT q.e with
          | nil=>rfl
          | cons t r=>exact (calm t (by rw [hsx];simp)).2
        rw [hnp,if_neg (by simp),first_none hf a2]
        refine ⟨_,by rw [d0,same_ex0 h3],a2,?_⟩
        simp only [List.length_cons,List.length_append,List.length_nil];omega
  obtain ⟨j,k1,k2,k3⟩:=key
  obtain ⟨n,hn⟩:=(read_show hf).1 l j _ k2 (closes_of ts (by decide))
  obtain ⟨x1,x2⟩:=exprR_of hn
  have a5:=aT_app k2
  have s5:seesP l wSemi ⟨j + (showT q.e).length,false⟩ = true:=by rw [sees_at a5];rfl
  unfold eqT eqP
  rw [k1,e2]
  simp only [x1,x2,need_at s5,k3]
  exact ⟨trivial,trivial⟩
theorem eq_sees {q:Eqn} (ts:List Tok) (w:Str):seesL w (eqTk q ++ ts) = false:=rfl
theorem eqs_at {l:List Tok} (N:Nat):∀ {qs:List Eqn} {i n:Nat},qs.all eqOkS = true→At l i ((qs.map eqTk).flatten ++ [tWord wTel])→rem l ⟨i,false⟩ < n→eqsF l N n ⟨i,false⟩ = (qs,⟨i + ((qs.map eqTk).flatten).length + 1,false⟩,0,0)
  | [],i,n,_,h,hn=>by
    cases n with
    | zero=>omega
    | succ n=>
      have s0:seesP l wTel ⟨i,false⟩ = true:=by rw [sees_at h];rfl
      simp only [eqsF,s0,take_at s0]
      rfl
  | q :: qs,i,n,hq,h,hn=>by
    cases n with
    | zero=>omega
    | succ n=>
      simp only [List.all_cons,Bool.and_eq_true] at hq
      rw [List.map_cons,List.flatten_cons,List.append_assoc] at h
      have s0:seesP l wTel ⟨i,false⟩ = false:=by rw [sees_at h];rfl
      obtain ⟨e1,e2⟩:=eq_at hq.1 h
      have hless:=rem_eqP l (s:=⟨i,false⟩) rfl
      rw [e2] at hless
      have:=eqs_at N (n:=n) hq.2 (aT_app h) (by omega)
      have hr:rightS q.e = 0:=by
        have:=hq.1
        simp only [eqOkS,Bool.and_eq_true,decide_eq_true_eq] at this
        exact this.2.1
      simp only [eqsF,s0,Bool.not_false,Bool.and_self,if_true,e1,e2,Bool.false_eq_true,if_false,hr,ne_eq,not_true_eq_false,this]
      simp only [List.map_cons,List.flatten_cons,List.length_append]
      congr 3;omega
theorem head_at {l:List Tok} {p:Prog} (h2:p.ins.all (variableS · false) = true) (h3:p.outs.all (variableS · false) = true) (h4:p.locals.all (variableS · true) = true) (hat:At l 0 (progT p)) :
    ∃ j,headR l ⟨0,false⟩ = ⟨p.name,p.ins,p.outs,p.locals,⟨j,false⟩⟩ ∧ At l j ((p.eqs.map eqTk).flatten ++ [tWord wTel]):=by
  unfold progT at hat
  have s0:seesP l wNode ⟨0,false⟩ = true:=by rw [sees_at hat];rfl
  obtain ⟨a1,_⟩:=aT_step hat
  obtain ⟨a2,_⟩:=aT_step a1
  obtain ⟨n1,n2⟩:=name_at a1
  obtain ⟨i1,i2⟩:=list_at h2 a2
  have a3:=aT_app a2
  have s3:seesP l wReturns ⟨0 + 1 + 1 + (listT p.ins).length,false⟩ = true:=by rw [sees_at a3];rfl
  obtain ⟨a4,_⟩:=aT_step a3
  obtain ⟨o1,o2⟩:=list_at h3 a4
  have a5:=aT_app a4
  have s5:seesP l wSemi ⟨0 + 1 + 1 + (listT p.ins).length + 1 + (listT p.outs).length,false⟩ = true:=by rw [sees_at a5];rfl
  obtain ⟨a6,_⟩:=aT_step a5
  unfold headR
  simp only [need_at s0,n1,n2,i1,i2,need_at s3,o1,o2,need_at s5]
  generalize 0 + 1 + 1 + (listT p.ins).length + 1 + (listT p.outs).length + 1 = k at a6
  cases hl:p.locals with
  | nil=>
    rw [hl] at a6
    simp only [if_true,List.map_nil,List.flatten_nil,List.nil_append] at a6
    have s6:seesP l wVar ⟨k,false⟩ = false:=by rw [sees_at a6];rfl
    have s7:seesP l wLet ⟨k,false⟩ = true:=by rw [sees_at a6];rfl
    obtain ⟨a7,_⟩:=aT_step a6
    simp only [s6,Bool.false_eq_true,if_false,need_at s7]
    exact ⟨_,rfl,a7⟩
  | cons v vs=>
    rw [hl] at a6 h4
    rw [if_neg (by simp)] at a6
    simp only [List.all_cons,Bool.and_eq_true] at h4
    rw [List.map_cons,List.flatten_cons,List.append_assoc] at a6
    have a6':At l k (tWord wVar :: (ownTk v ++ ((vs.map ownTk).flatten ++ (tWord wLet :: ((p.eqs.map eqTk).flatten ++ [tWord wTel]))))):=by simpa using a6
    have s6:seesP l wVar ⟨k,false⟩ = true:=by rw [sees_at a6'];rfl
    obtain ⟨a7,_⟩:=aT_step a6'
    obtain ⟨v1,v2⟩:=own_at h4.1 a7
    have a8:=aT_app a7
    have v3:=owns_at h4.2 a8
    have a9:=aT_app a8
    have s9:seesP l wLet ⟨k + 1 + (ownTk v).length + ((vs.map ownTk).flatten).length,false⟩ = true:=by rw [sees_at a9];rfl
    obtain ⟨a10,_⟩:=aT_step a9
    simp only [s6,if_true,take_at s6,v1,v2,v3,need_at s9]
    exact ⟨_,rfl,a10⟩
theorem parse_text {p:Prog} (h:wholeS p = true) (hl:(textS p).length ≤ 4096):parseS (textS p) = (p,0,0):=by
  have hlex:=text_lex h ((textS p).length + 1) (textS p).length (by omega)
  have hsc:scanS (textS p) = scanF ((textS p).length + 1) (textS p).length (passS (textS p)):=by unfold scanS;rw [if_neg (by omega)]
  rw [← hsc] at hlex
  obtain ⟨h0,hz⟩:=hlex
  simp only [wholeS,Bool.and_eq_true] at h
  obtain ⟨h1,h2,h3,h4,h5⟩:=h
  have hat:At (scanS (textS p)).1 0 (progT p):=hz
  obtain ⟨j,hh,ha⟩:=head_at h2 h3 h4 hat
  have he:=eqs_at (textS p).length (n:=rem (scanS (textS p)).1 ⟨j,false⟩ + 1) h5 ha (Nat.lt_succ_self _)
  have hend:=aT_app ha
  obtain ⟨hend,_⟩:=aT_step hend
  have hlen:(scanS (textS p)).1.length ≤ j + ((p.eqs.map eqTk).flatten).length + 1:=by
    unfold At at hend
    rw [List.map_eq_nil_iff,List.drop_eq_nil_iff] at hend
    exact hend
  unfold parseS
  simp only [h0,ne_eq,not_true_eq_false,if_false,hh,he,Bool.false_or]
  rw [if_neg (by rw [decide_eq_false (by omega)];decide)]
end Am
namespace Am
open Go C
def tokName (l:List Tok):Prop:=∀ t ∈ l,t.kind = 1→t.text.length ≤ 16
theorem nextS_name (s:Str) (h:(nextS s).2 = 0):(nextS s).1.kind = 1→(nextS s).1.text.length ≤ 16:=by
  cases s with
  | nil=>intro h1;simp [nextS] at h1
  | cons c cs=>
    simp only [nextS] at h ⊢
    split
    · split
      · intro h1;simp at h1
      · rename_i h1 h2
        rw [if_pos h1,if_neg h2] at h
        split
        · rename_i h3;rw [if_pos h3] at h;simp at h
        · rename_i h3;intro _;dsimp only;omega
    · split
      · split <;> (intro h1;simp at h1)
      · split
        · intro h1;simp at h1
        · split <;> (intro h1;simp at h1)
theorem scanF_name (n N:Nat) (t:Str):tokName (scanF n N t).1:=by
  induction n generalizing t with
  | zero=>intro x hx;simp [scanF] at hx
  | succ n ih=>
    rw [scanF]
    split
    · intro x hx;simp at hx
    · split
      · intro x hx;simp at hx
      · rename_i h0
        simp only [ne_eq,Decidable.not_not] at h0
        dsimp only
        split
        · intro x hx;simp at hx
        · intro x hx
          cases hx with
          | head=>exact nextS_name t h0
          | tail _ hx=>exact ih _ x hx
theorem scan_name (s:Str):tokName (scanS s).1:=by
  unfold scanS
  split
  · intro x hx;simp at hx
  · exact scanF_name _ _ _
theorem scan_small (s:Str):(scanS s).1.length ≤ 4096:=by
  by_cases h:4096 < s.length
  · unfold scanS;rw [if_pos h];simp
  · have:=scan_len s;omega
theorem nameT_16 {l:List Tok} (hl:tokName l) (s:PS):(nameT l s).length ≤ 16:=by
  unfold nameT tokenT
  split
  · rename_i h
    obtain ⟨t,ht⟩:=is_next h
    have hk:t.kind = 1:=by
      unfold isP at h
      rw [ht] at h
      simpa using h
    rw [ht]
    unfold nextP at ht
    split at ht
    · cases ht
    · exact hl _ (List.mem_of_getElem? ht) hk
  · simp [tokD]
theorem declT_fit {l:List Tok} (hl:tokName l) (s:PS):(declT l s).fit:=⟨by have:=nameT_16 hl s;show (nameT l s).length ≤ 1000;omega,by show ([]:Str).length ≤ 1000;simp⟩
theorem ownT_fit {l:List Tok} (hl:tokName l) (s:PS):(ownT l s).fit:=by
  refine ⟨by have:=nameT_16 hl s;show (nameT l s).length ≤ 1000;omega,?_⟩
  show (ownClk l (declP l s)).name.length ≤ 1000
  unfold ownClk
  split
  · have:=nameT_16 hl (takeP l wWhen (declP l s));dsimp only;omega
  · split
    · have:=nameT_16 hl (takeP l wUnless (declP l s));dsimp only;omega
    · simp
theorem declsF_fit {l:List Tok} (hl:tokName l):∀ n s,∀ v ∈ (declsF l n s).1,v.fit:=by
  intro n
  induction n with
  | zero=>intro s v hv;simp [declsF] at hv
  | succ n ih=>
    intro s v hv
    rw [declsF] at hv
    split at hv
    · cases hv with
      | head=>exact declT_fit hl _
      | tail _ hv=>exact ih _ v hv
    · simp at hv
theorem declsT_fit {l:List Tok} (hl:tokName l) (s:PS):(declsT l s).length ≤ l.length + 2 ∧ ∀ v ∈ declsT l s,v.fit:=by
  unfold declsT
  dsimp only
  split
  · exact ⟨by simp,fun v hv=>by simp at hv⟩
  · refine ⟨?_,fun v hv=>?_⟩
    · have h1:=more_len l (rem l (declP l (needP l wOpen s)) + 1) (declP l (needP l wOpen s))
      have h2:=rem_le l (declP l (needP l wOpen s))
      unfold moreP
      simp only [List.length_cons];omega
    · cases hv with
      | head=>exact declT_fit hl _
      | tail _ hv=>exact declsF_fit hl _ _ v hv
theorem ownsF_fit {l:List Tok} (hl:tokName l):∀ n s,(ownsF l n s).1.length ≤ n ∧ ∀ v ∈ (ownsF l n s).1,v.fit:=by
  intro n
  induction n with
  | zero=>intro s;exact ⟨by simp [ownsF],fun v hv=>by simp [ownsF] at hv⟩
  | succ n ih=>
    intro s
    rw [ownsF]
    split
    · obtain ⟨h1,h2⟩:=ih (ownP l s)
      refine ⟨by simp only [List.length_cons];omega,fun v hv=>?_⟩
      cases hv with
      | head=>exact ownT_fit hl _
      | tail _ hv=>exact h2 v hv
    · exact ⟨by simp,fun v hv=>by simp at hv⟩
theorem head_fit {l:List Tok} (hl:tokName l) (s:PS):(headR l s).name.length ≤ 16 ∧ ((headR l s).ins.length ≤ l.length + 2 ∧ ∀ v ∈ (headR l s).ins,v.fit) ∧ ((headR l s).outs.length ≤ l.length + 2 ∧ ∀ v ∈ (headR l s).outs,v.fit) ∧
    ((headR l s).locals.length ≤ l.length + 3 ∧ ∀ v ∈ (headR l s).locals,v.fit):=by
  unfold headR
  dsimp only
  refine ⟨nameT_16 hl _,declsT_fit hl _,declsT_fit hl _,?_⟩
  split
  · generalize takeP l wVar (needP l wSemi (declsP l (needP l wReturns (declsP l (tokenP l 1 (needP l wNode s)))))) = q
    obtain ⟨h1,h2⟩:=ownsF_fit hl (rem l (ownP l q) + 1) (ownP l q)
    have h3:=rem_le l (ownP l q)
    refine ⟨?_,fun v hv=>?_⟩
    · unfold ownsP;simp only [List.length_cons];omega
    · cases hv with
      | head=>exact ownT_fit hl _
      | tail _ hv=>exact h2 v hv
  · exact ⟨by simp,fun v hv=>by simp at hv⟩
theorem first_fit {l:List Tok} {s s':PS} {x:Ex} (h:firstR l s = some (x,s')):x.fit = true:=by
  have hlit:∀ y s2,litR l s = some (y,s2)→y.fit = true:=by
    intro y s2 h
    unfold litR at h
    dsimp only at h
    split at h
    · cases h;exact fit_mk0 _ _
    split at h
    · cases h;exact fit_mk0 _ _
    split at h
    · cases h;exact fit_mk0 _ _
    · cases h
  unfold firstR at h
  split at h
  · cases h
  · rename_i y s2 h1
    have h2:=hlit _ _ h1
    split at h
    · cases h
      split
      · exact fit_mk (by simp) (by simp) (by simp [fitL_cons,h2,fitL_nil])
      · exact h2
    · cases h
theorem eqT_fit {l:List Tok} (hl:tokName l) (hf:tokFit l) (s:PS):(eqT l s).fit:=by
  refine ⟨by have:=nameT_16 hl s;show (nameT l s).length ≤ 1000;omega,expr_fit hf _,?_⟩
  show (eqAt l s).2.1.fit = true
  unfold eqAt eqFirst
  split
  · exact fit_mk0 _ _
  · split
    · rename_i h;exact first_fit h
    · exact fit_mk0 _ _
theorem eqsF_fit {l:List Tok} (hl:tokName l) (hf:tokFit l) (N:Nat):∀ n s,(eqsF l N n s).1.length ≤ n ∧ ∀ q ∈ (eqsF l N n s).1,q.fit:=by
  intro n
  induction n with
  | zero=>intro s;exact ⟨by simp [eqsF],fun q hq=>by simp [eqsF] at hq⟩
  | succ n ih=>
    intro s
    rw [eqsF]
    split
    · split
      · exact ⟨by simp,fun q hq=>by simp at hq⟩
      · split
        · exact ⟨by simp,fun q hq=>by simp at hq⟩
        · obtain ⟨h1,h2⟩:=ih (eqP l s)
          refine ⟨by simp only [List.length_cons];omega,fun q hq=>?_⟩
          cases hq with
          | head=>exact eqT_fit hl hf _
          | tail _ hq=>exact h2 q hq
    · exact ⟨by simp,fun q hq=>by simp at hq⟩
theorem parse_fit (S:Str) (hS:S.length ≤ 1000000):(parseS S).1.fit ∧ (parseS S).1.small:=by
  have h0:prog0.fit ∧ prog0.small:=⟨⟨by simp [prog0],⟨by simp [prog0],by simp [prog0]⟩,⟨by simp [prog0],by simp [prog0]⟩,⟨by simp [prog0],by simp [prog0]⟩,by simp [prog0],by simp [prog0]⟩,by simp [prog0,Prog.small]⟩
  have hl:=scan_name S
  have hf:=scan_fit S hS
  have hn:=scan_small S
  unfold parseS
  dsimp only
  split
  · exact h0
  split
  · exact h0
  split
  · exact h0
  obtain ⟨a1,⟨a2,a3⟩,⟨a4,a5⟩,a6,a7⟩:=head_fit hl ⟨0,false⟩
  obtain ⟨b1,b2⟩:=eqsF_fit hl hf S.length (rem (scanS S).1 (headR (scanS S).1 ⟨0,false⟩).to + 1) (headR (scanS S).1 ⟨0,false⟩).to
  have b3:=rem_le (scanS S).1 (headR (scanS S).1 ⟨0,false⟩).to
  refine ⟨⟨by dsimp only;omega,⟨by dsimp only;omega,a3⟩,⟨by dsimp only;omega,a5⟩,⟨by dsimp only;omega,a7⟩,by dsimp only;omega,b2⟩,?_⟩
  exact ⟨by dsimp only;omega,by dsimp only;omega,by dsimp only;omega,by dsimp only;omega⟩
end Am
