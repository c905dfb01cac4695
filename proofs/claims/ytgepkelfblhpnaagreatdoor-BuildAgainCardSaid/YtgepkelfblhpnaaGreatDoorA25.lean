/- A part of the proof of BuildAgain: no condition of its own. Whence: AmTree5, AmTree6. -/
import Derived.Test.YtgepkelfblhpnaaGreatDoorA24
set_option linter.all false
namespace Am
open Go C
mutual
def Ex.size:Ex→Nat
  | .mk _ _ _ l=>1 + sizeL l
def sizeL:List Ex→Nat
  | []=>0
  | x :: xs=>x.size + sizeL xs
end
mutual
def Ex.depth:Ex→Nat
  | .mk _ _ _ l=>depthL l + 1
def depthL:List Ex→Nat
  | []=>0
  | x :: xs=>max x.depth (depthL xs)
end
mutual
def Ex.fit:Ex→Bool
  | .mk _ _ nm l=>decide (nm.length ≤ 1000000) && (decide (l.length ≤ 1000000) && fitL l)
def fitL:List Ex→Bool
  | []=>true
  | x :: xs=>x.fit && fitL xs
end
def formS (k:Int):Int × Int × Int × Bool × Bool:=
  if k = 1 then (0,0,2147483647,false,true) else if k = 2 then (0,0,1,false,true) else if k = 3 then (0,0,0,true,true)
  else if k = 4 then (1,1,2,false,true) else if k = 5 then (2,1,16,false,true) else if k = 6 then (3,0,0,false,true)
  else if k = 7 then (2,0,0,false,true) else if k = 8 ∨ k = 9 then (1,0,0,true,true) else if k = 10 then (2,0,0,true,true) else (0,0,0,false,false)
def formedA (k n:Int) (nm:Str) (len:Nat):Bool:=
  let f:=formS k
  f.2.2.2.2 && (decide ((len:Int) = f.1) && (decide (f.2.1 ≤ n) && (decide (n ≤ f.2.2.1) && ((f.2.2.2.1 == nameS nm) && (f.2.2.2.1 || decide (nm = []))))))
mutual
def Ex.formed:Ex→Bool
  | .mk k n nm l=>formedA k n nm l.length && formedL l
def formedL:List Ex→Bool
  | []=>true
  | x :: xs=>x.formed && formedL xs
end
theorem Ex.size_eq (x:Ex):x.size = 1 + sizeL x.sub:=by cases x;rw [Ex.size];rfl
theorem sizeL_nil:sizeL [] = 0:=by rw [sizeL]
theorem sizeL_cons (x:Ex) (xs:List Ex):sizeL (x :: xs) = x.size + sizeL xs:=by rw [sizeL]
theorem Ex.depth_eq (x:Ex):x.depth = depthL x.sub + 1:=by cases x;rw [Ex.depth];rfl
theorem depthL_nil:depthL [] = 0:=by rw [depthL]
theorem depthL_cons (x:Ex) (xs:List Ex):depthL (x :: xs) = max x.depth (depthL xs):=by rw [depthL]
theorem Ex.fit_eq (x:Ex):x.fit = (decide (x.name.length ≤ 1000000) && (decide (x.sub.length ≤ 1000000) && fitL x.sub)):=by cases x;rw [Ex.fit];rfl
theorem fitL_cons (x:Ex) (xs:List Ex):fitL (x :: xs) = (x.fit && fitL xs):=by rw [fitL]
theorem Ex.formed_eq (x:Ex):x.formed = (formedA x.kind x.n x.name x.sub.length && formedL x.sub):=by cases x;rw [Ex.formed];rfl
theorem formedL_nil:formedL [] = true:=by rw [formedL]
theorem formedL_cons (x:Ex) (xs:List Ex):formedL (x :: xs) = (x.formed && formedL xs):=by rw [formedL]
theorem fitL_mem {l:List Ex} (h:fitL l = true) {x:Ex} (hx:x ∈ l):x.fit = true:=by
  induction l with
  | nil=>cases hx
  | cons y l ih=>
    rw [fitL_cons] at h
    simp only [Bool.and_eq_true] at h
    cases hx with
    | head=>exact h.1
    | tail _ hx=>exact ih h.2 hx
theorem size_pos (x:Ex):1 ≤ x.size:=by rw [x.size_eq];omega
theorem sizeL_mem {l:List Ex} {x:Ex} (hx:x ∈ l):x.size ≤ sizeL l:=by
  induction l with
  | nil=>cases hx
  | cons y l ih=>
    rw [sizeL_cons]
    cases hx with
    | head=>omega
    | tail _ hx=>have:=ih hx;omega
theorem depth_le:∀ (n:Nat) (x:Ex),x.size ≤ n→x.depth ≤ x.size:=by
  intro n
  induction n with
  | zero=>intro x h;have:=size_pos x;omega
  | succ n ih=>
    intro x h
    rw [x.depth_eq,x.size_eq]
    have key:∀ l:List Ex,sizeL l ≤ n→depthL l ≤ sizeL l:=by
      intro l
      induction l with
      | nil=>intro _;rw [depthL_nil];omega
      | cons y l ih2=>
        intro h2
        rw [sizeL_cons] at h2
        rw [depthL_cons,sizeL_cons]
        have:=ih y (by omega)
        have:=ih2 (by omega)
        omega
    have:=key x.sub (by rw [x.size_eq] at h;omega)
    omega
theorem form_c (k:Int) (H:St):CallsA prg 143 [.d (.int .i64 k)] H (.tup [.d (.int .i64 (formS k).1),.d (.int .i32 (formS k).2.1),.d (.int .i32 (formS k).2.2.1),.d (.bool (formS k).2.2.2.1),.d (.bool (formS k).2.2.2.2)]) H:=by
  refine calls_of2 rfl f143 ?_
  obtain ⟨B,T,lw⟩:=H
  simp only [go_sem,c143]
  repeat' (refine WG_intro ?_ ?_ <;> intro h <;> (try simp only [go_sem,h]))
  all_goals simp_all [formS]
def CntI (x:Ex) (m:Int) (X:List Obj) (T:List Nat) (k:Nat) (e:Env) (H:St):Prop:=
  ∃ (i:Nat) (c:Int),k = x.sub.length - i ∧ i ≤ x.sub.length ∧ 1 ≤ c ∧ c ≤ m ∧ min (c + sizeL (x.sub.drop i)) m = min (x.size:Int) m ∧
    e = [(1,.d (.int .i64 m)),(5,.d (.int .i64 c)),(9,.d (.sl (encL x.sub))),(10,.d (.int .i64 x.sub.length)),(11,.d (.int .i64 i))] ∧ H = ⟨X,T,none⟩
theorem count_c:∀ (n:Nat) (x:Ex),x.size ≤ n→x.fit = true→∀ (m:Int) (H:St),1 ≤ m→m ≤ 1000000→CallsA prg 67 [exV x,.d (.int .i64 m)] H (.d (.int .i64 (min (x.size:Int) m))) H:=by
  intro n
  induction n with
  | zero=>intro x h;have:=size_pos x;omega
  | succ n ih=>
    intro x hx hf m H hm hm2
    unfold exV
    refine calls_of2 rfl f67 ?_
    obtain ⟨B,T,lw⟩:=H
    simp only [go_sem,c67]
    have hsz:=x.size_eq
    rw [x.fit_eq] at hf
    simp only [Bool.and_eq_true,decide_eq_true_eq] at hf
    refine loop_I (CntI x m _ T) x.sub.length ⟨0,1,rfl,Nat.zero_le _,Int.le_refl _,hm,?_,rfl,rfl⟩ ?_
    · rw [hsz];simp
    rintro k e H ⟨i,c,rfl,hi,hc,hcm,hv,rfl,rfl⟩
    simp only [go_sem,c67l0]
    refine WG_intro (fun h=>?_) fun h=>?_
    · have hlt:i < x.sub.length:=by simpa using h
      obtain ⟨y,hy⟩:=at_of_lt hlt
      have hmem:=List.mem_of_getElem? hy
      have hyf:=fitL_mem hf.2.2 hmem
      have hys:=sizeL_mem hmem
      have hyp:=size_pos y
      rw [drop_at hy,sizeL_cons] at hv
      have e2:(encL x.sub)[i]? = some (encE y):=by rw [encL_at,hy];rfl
      simp only [go_sem,h,e2]
      refine WG_intro (fun h1=>?_) fun h1=>?_
      · have h1':m ≤ c:=by simpa using h1
        simp only [go_sem,h1]
        rw [show min (x.size:Int) m = c by omega]
      · have h1':c < m:=by simpa using h1
        have hrec:=fun H=>WCall_of (ih y (by omega) hyf (m - c) H (by omega) (by omega))
        unfold exV at hrec
        simp only [go_sem] at hrec
        have w1:IntKind.i64.wrap (m - c) = m - c:=wrap64 (by omega) (by omega)
        simp only [go_sem,h1,hrec,w1]
        rw [wrap64 (by omega) (by omega),wrap64 (by omega) (by omega)]
        refine ⟨_,by omega,i + 1,c + min (y.size:Int) (m - c),rfl,by omega,by omega,by omega,?_,?_,?_⟩
        · omega
        · simp
        · rfl
    · have hlt:x.sub.length ≤ i:=by simpa using h
      rw [List.drop_of_length_le hlt,sizeL_nil] at hv
      simp only [go_sem,h]
      rw [show min (x.size:Int) m = c by omega]
def DepI (x:Ex) (X:List Obj) (T:List Nat) (k:Nat) (e:Env) (H:St):Prop:=
  ∃ (i c:Nat),k = x.sub.length - i ∧ i ≤ x.sub.length ∧ max c (depthL (x.sub.drop i)) = depthL x.sub ∧
    e = [(3,.d (.int .i64 c)),(7,.d (.sl (encL x.sub))),(8,.d (.int .i64 x.sub.length)),(9,.d (.int .i64 i))] ∧ H = ⟨X,T,none⟩
theorem depth_c:∀ (n:Nat) (x:Ex),x.size ≤ n→n ≤ 1000000→x.fit = true→∀ (H:St),CallsA prg 68 [exV x] H (.d (.int .i64 x.depth)) H:=by
  intro n
  induction n with
  | zero=>intro x h;have:=size_pos x;omega
  | succ n ih=>
    intro x hx hn hf H
    unfold exV
    refine calls_of2 rfl f68 ?_
    obtain ⟨B,T,lw⟩:=H
    simp only [go_sem,c68]
    have hsz:=x.size_eq
    have hdl:=depth_le _ x (Nat.le_refl _)
    have hde:=x.depth_eq
    rw [x.fit_eq] at hf
    simp only [Bool.and_eq_true,decide_eq_true_eq] at hf
    refine loop_I (DepI x _ T) x.sub.length ⟨0,0,rfl,Nat.zero_le _,?_,rfl,rfl⟩ ?_
    · simp
    rintro k e H ⟨i,c,rfl,hi,hv,rfl,rfl⟩
    simp only [go_sem,c68l0]
    refine WG_intro (fun h=>?_) fun h=>?_
    · have hlt:i < x.sub.length:=by simpa using h
      obtain ⟨y,hy⟩:=at_of_lt hlt
      have hmem:=List.mem_of_getElem? hy
      have hyf:=fitL_mem hf.2.2 hmem
      have hys:=sizeL_mem hmem
      rw [drop_at hy,depthL_cons] at hv
      have e2:(encL x.sub)[i]? = some (encE y):=by rw [encL_at,hy];rfl
      have hrec:=fun H=>WCall_of (ih y (by omega) (by omega) hyf H)
      unfold exV at hrec
      simp only [go_sem] at hrec
      simp only [go_sem,h,e2,hrec]
      rw [wrap64 (by omega) (by omega)]
      refine ⟨_,by omega,i + 1,max c y.depth,rfl,by omega,by omega,?_,rfl⟩
      have hmx:(if (y.depth:Int) > c then (y.depth:Int) else c) = ((max c y.depth:Nat):Int):=by split <;> omega
      rw [hmx]
      rfl
    · have hlt:x.sub.length ≤ i:=by simpa using h
      rw [List.drop_of_length_le hlt,depthL_nil] at hv
      simp only [go_sem,h]
      rw [wrap64 (by omega) (by omega)]
      rw [hde,← hv]
      simp
def FmI (x:Ex) (X:List Obj) (T:List Nat) (k:Nat) (e:Env) (H:St):Prop:=
  ∃ (i:Nat),k = x.sub.length - i ∧ i ≤ x.sub.length ∧ formedL (x.sub.drop i) = formedL x.sub ∧
    e = [(57,.d (.sl (encL x.sub))),(58,.d (.int .i64 x.sub.length)),(59,.d (.int .i64 i))] ∧ H = ⟨X,T,none⟩
theorem formed_c:∀ (n:Nat) (x:Ex),x.size ≤ n→x.fit = true→∀ (H:St),CallsA prg 69 [exV x] H (.d (.bool x.formed)) H:=by
  intro n
  induction n with
  | zero=>intro x h;have:=size_pos x;omega
  | succ n ih=>
    intro x hx hf H
    have hfo:=x.formed_eq
    have hsz:=x.size_eq
    rw [x.fit_eq] at hf
    simp only [Bool.and_eq_true,decide_eq_true_eq] at hf
    have hform:=fun H=>WCall_of (form_c x.kind H)
    have hname:=fun H=>WCall_of (name_c x.name hf.1 H)
    unfold exV
    refine calls_of2 rfl f69 ?_
    obtain ⟨B,T,lw⟩:=H
    simp only [go_sem,c69,hform]
    generalize hg:formS x.kind = g at *
    obtain ⟨g1,g2,g3,g4,g5⟩:=g
    have hA:formedA x.kind x.n x.name x.sub.length = (g5 && (decide ((x.sub.length:Int) = g1) && (decide (g2 ≤ x.n) && (decide (x.n ≤ g3) && ((g4 == nameS x.name) && (g4 || decide (x.name = []))))))):=by
      unfold formedA;rw [hg]
    clear hform
    have fin:(g5 && (decide ((x.sub.length:Int) = g1) && (decide (g2 ≤ x.n) && (decide (x.n ≤ g3) && ((g4 == nameS x.name) && (g4 || decide (x.name = []))))))) = false→x.formed = false:=by
      intro h;rw [hfo,hA,h];rfl
    cases g5 with
    | false=>
      simp only [go_sem]
      rw [fin (by simp)]
    | true=>
      simp only [go_sem]
      by_cases t1:(x.sub.length:Int) = g1
      case neg=>
        have t1':((x.sub.length:Int) != g1) = true:=by simpa using t1
        simp only [go_sem,t1']
        rw [fin (by simp [t1])]
      have t1':((x.sub.length:Int) != g1) = false:=by simpa using t1
      simp only [go_sem,t1']
      by_cases t2:g2 ≤ x.n
      case neg=>
        have t2':decide (x.n < g2) = true:=by simp;omega
        simp only [go_sem,t2']
        rw [fin (by simp [t2])]
      have t2':decide (x.n < g2) = false:=by simp;omega
      simp only [go_sem,t2']
      by_cases t3:x.n ≤ g3
      case neg=>
        have t3':decide (x.n > g3) = true:=by simp;omega
        simp only [go_sem,t3']
        rw [fin (by simp [t3])]
      have t3':decide (x.n > g3) = false:=by simp;omega
      simp only [go_sem,t3',hname]
      refine WG_intro (fun t4=>?_) fun t4=>?_
      case refine_2=>
        simp only [go_sem,t4]
        rw [fin (by rw [t4];simp)]
      simp only [go_sem,t4]
      have mainL:(g4 || decide (x.name = [])) = true→x.formed = formedL x.sub:=by
        intro h
        rw [hfo,hA,h,t4]
        simp [t1,t2,t3]
      have go:x.formed = formedL x.sub→WC prg (.loop [57,58,59] c69l0) (kBlock 0 [] (kSeq prg (.seq (.region false [⟨some 2,.move (.const (.d (.bool true))),none,[]⟩] [2]) .ret) (WEnd2 [.slot 2] .shut ⟨B,T,lw⟩ (.d (.bool x.formed)) ⟨B,T,lw⟩)))
          [(57,.d (.sl (encL x.sub))),(58,.d (.int .i64 x.sub.length)),(59,.d (.int .i64 0))] ⟨B ++ [.cells [.d (.int .i64 x.kind),.d (.int .i32 x.n),.d (.str x.name),.d (.sl (encL x.sub))]],T,none⟩:=by
        intro hall
        refine loop_I (FmI x _ T) x.sub.length ⟨0,rfl,Nat.zero_le _,rfl,rfl,rfl⟩ ?_
        rintro k e H ⟨i,rfl,hi,hv,rfl,rfl⟩
        simp only [go_sem,c69l0]
        refine WG_intro (fun h=>?_) fun h=>?_
        · have hlt:i < x.sub.length:=by simpa using h
          obtain ⟨y,hy⟩:=at_of_lt hlt
          have hmem:=List.mem_of_getElem? hy
          have hyf:=fitL_mem hf.2.2 hmem
          have hys:=sizeL_mem hmem
          rw [drop_at hy,formedL_cons] at hv
          have e2:(encL x.sub)[i]? = some (encE y):=by rw [encL_at,hy];rfl
          have hrec:=fun H=>WCall_of (ih y (by omega) hyf H)
          unfold exV at hrec
          simp only [go_sem] at hrec
          simp only [go_sem,h,e2,hrec]
          refine WG_intro (fun h2=>?_) fun h2=>?_
          · simp only [go_sem,h2]
            rw [wrap64 (by omega) (by omega)]
            exact ⟨_,by omega,i + 1,rfl,by omega,by rw [← hv,h2];rfl,rfl,rfl⟩
          · simp only [go_sem,h2]
            rw [hall,← hv,h2];simp
        · have hlt:x.sub.length ≤ i:=by simpa using h
          rw [List.drop_of_length_le hlt,formedL_nil] at hv
          simp only [go_sem,h]
          rw [hall,← hv]
      cases g4 with
      | true=>
        simp only [go_sem]
        exact go (mainL rfl)
      | false=>
        simp only [go_sem]
        refine WG_intro (fun t5=>?_) fun t5=>?_
        · simp only [go_sem,t5]
          exact go (mainL (by simpa using t5))
        · simp only [go_sem,t5]
          have t5':¬ x.name = []:=by simpa using t5
          rw [fin (by simp [t5'])]
def rightS (x:Ex):Int:=if 120 < x.size then 3 else if 12 < x.depth then 17 else if x.formed then 0 else 4
theorem right_c (x:Ex) (hf:x.fit = true) (H:St):CallsA prg 29 [exV x] H (.d (.int .i64 (rightS x))) H:=by
  have h1:=fun H=>WCall_of (count_c _ x (Nat.le_refl _) hf 121 H (by omega) (by omega))
  unfold exV at h1 ⊢
  simp only [go_sem] at h1
  refine calls_of2 rfl f29 ?_
  obtain ⟨B,T,lw⟩:=H
  simp only [go_sem,c29,h1]
  refine WG_intro (fun t1=>?_) fun t1=>?_
  · have:120 < x.size:=by simp at t1;omega
    simp only [go_sem,t1]
    simp [rightS,this]
  · have hs:¬ 120 < x.size:=by simp at t1;omega
    have h2:=fun H=>WCall_of (depth_c _ x (Nat.le_refl _) (by omega) hf H)
    unfold exV at h2
    simp only [go_sem] at h2
    simp only [go_sem,t1,h2]
    refine WG_intro (fun t2=>?_) fun t2=>?_
    · have:12 < x.depth:=by simp at t2;omega
      simp only [go_sem,t2]
      simp [rightS,this,hs]
    · have hd:¬ 12 < x.depth:=by simp at t2;omega
      have h3:=fun H=>WCall_of (formed_c _ x (Nat.le_refl _) hf H)
      unfold exV at h3
      simp only [go_sem] at h3
      simp only [go_sem,t2,h3]
      refine WG_intro (fun t3=>?_) fun t3=>?_
      · simp only [go_sem,t3]
        simp [rightS,hd,hs,t3]
      · simp only [go_sem,t3]
        simp [rightS,hd,hs,t3]
def tokFit (l:List Tok):Prop:=∀ t ∈ l,t.text.length ≤ 1000000
theorem fit_mk {k n:Int} {nm:Str} {l:List Ex} (h1:nm.length ≤ 1000000) (h2:l.length ≤ 1000000) (h3:fitL l = true):(Ex.mk k n nm l).fit = true:=by
  rw [Ex.fit,h3];simp [h1,h2]
theorem fitL_nil:fitL [] = true:=by rw [fitL]
theorem nameT_fit {l:List Tok} (hl:tokFit l) (s:PS):(nameT l s).length ≤ 1000000:=by
  unfold nameT tokenT
  split
  · rename_i h
    obtain ⟨t,ht⟩:=is_next h
    rw [ht]
    unfold nextP at ht
    split at ht
    · cases ht
    · exact hl _ (List.mem_of_getElem? ht)
  · simp [tokD]
theorem fit_mk0 (k n:Int):(Ex.mk k n [] []).fit = true:=fit_mk (by simp) (by simp) fitL_nil
def PT.fit:PT→Prop
  | .loop _ a=>a.fit = true
  | .fl a=>a.fit = true
  | _=>True
theorem pF_fit {l:List Tok} (hl:tokFit l):∀ n t s x s',t.fit→pF l n t s = some (x,s')→x.fit = true:=by
  intro n
  induction n with
  | zero=>intro t s x s' _ h;simp [pF] at h
  | succ n ih=>
    intro t s x s' ht h
    cases t with
    | expr=>
      rw [pF] at h
      obtain ⟨⟨a,s1⟩,h1,h2⟩:=Option.bind_eq_some_iff.1 h
      have ha:=ih (.level 0) _ _ _ trivial h1
      dsimp only at h2
      split at h2
      · obtain ⟨⟨b,s3⟩,h3,h4⟩:=Option.bind_eq_some_iff.1 h2
        cases h4
        have hb:=ih .expr _ _ _ trivial h3
        exact fit_mk (by simp) (by simp) (by simp [fitL_cons,ha,hb,fitL_nil])
      · cases h2;exact ha
    | level k=>
      rw [pF] at h
      split at h
      · exact ih .unary _ _ _ trivial h
      · obtain ⟨⟨a,s1⟩,h1,h2⟩:=Option.bind_eq_some_iff.1 h
        exact ih (.loop k a) _ _ _ (ih (.level (k + 1)) _ _ _ trivial h1) h2
    | loop k a=>
      rw [pF] at h
      split at h
      · cases h;exact ht
      · obtain ⟨⟨b,s1⟩,h1,h2⟩:=Option.bind_eq_some_iff.1 h
        have hb:=ih (.level (k + 1)) _ _ _ trivial h1
        have hc:(Ex.mk 5 (opOfS (anyP l (marksS k) s)) [] [a,b]).fit = true:=fit_mk (by simp) (by simp) (by simp [fitL_cons,show a.fit = true from ht,hb,fitL_nil])
        dsimp only at h2
        split at h2
        · cases h2;exact hc
        · exact ih (.loop k _) _ _ _ hc h2
    | unary=>
      rw [pF] at h
      split at h
      · obtain ⟨⟨a,s1⟩,h1,h2⟩:=Option.bind_eq_some_iff.1 h
        cases h2
        exact fit_mk (by simp) (by simp) (by simp [fitL_cons,ih .unary _ _ _ trivial h1,fitL_nil])
      · split at h
        · obtain ⟨⟨a,s1⟩,h1,h2⟩:=Option.bind_eq_some_iff.1 h
          cases h2
          exact fit_mk (by simp) (by simp) (by simp [fitL_cons,ih .unary _ _ _ trivial h1,fitL_nil])
        · exact ih .factor _ _ _ trivial h
    | factor=>
      rw [pF] at h
      obtain ⟨⟨a,s1⟩,h1,h2⟩:=Option.bind_eq_some_iff.1 h
      exact ih (.fl a) _ _ _ (ih .atom _ _ _ trivial h1) h2
    | fl a=>
      have ha:a.fit = true:=ht
      rw [pF] at h
      split at h
      · exact ih (.fl _) _ _ _ (fit_mk (nameT_fit hl _) (by simp) (by simp [fitL_cons,ha,fitL_nil])) h
      · split at h
        · exact ih (.fl _) _ _ _ (fit_mk (nameT_fit hl _) (by simp) (by simp [fitL_cons,ha,fitL_nil])) h
        · cases h;exact ha
    | atom=>
      rw [pF] at h
      split at h
      · cases h;exact fit_mk0 _ _
      split at h
      · cases h;exact fit_mk0 _ _
      split at h
      · cases h;exact fit_mk0 _ _
      split at h
      · obtain ⟨⟨a,s1⟩,h1,h2⟩:=Option.bind_eq_some_iff.1 h
        cases h2
        exact ih .expr _ _ _ trivial h1
      split at h
      · obtain ⟨⟨a,s1⟩,h1,h2⟩:=Option.bind_eq_some_iff.1 h
        obtain ⟨⟨b,s2⟩,h3,h4⟩:=Option.bind_eq_some_iff.1 h2
        obtain ⟨⟨c,s3⟩,h5,h6⟩:=Option.bind_eq_some_iff.1 h4
        cases h6
        exact fit_mk (by simp) (by simp) (by simp [fitL_cons,ih .expr _ _ _ trivial h1,ih .expr _ _ _ trivial h3,ih .expr _ _ _ trivial h5,fitL_nil])
      split at h
      · obtain ⟨⟨a,s1⟩,h1,h2⟩:=Option.bind_eq_some_iff.1 h
        obtain ⟨⟨b,s2⟩,h3,h4⟩:=Option.bind_eq_some_iff.1 h2
        cases h4
        exact fit_mk (nameT_fit hl _) (by simp) (by simp [fitL_cons,ih .factor _ _ _ trivial h1,ih .factor _ _ _ trivial h3,fitL_nil])
      · cases h
        exact fit_mk (nameT_fit hl _) (by simp) fitL_nil
theorem expr_fit {l:List Tok} (hl:tokFit l) (s:PS):(exprX l s).fit = true:=pF_fit hl _ .expr _ _ _ trivial (exprR_eq l s)
theorem scanF_fit (n N:Nat) (t:Str) (ht:t.length ≤ 1000000):tokFit (scanF n N t).1:=by
  induction n generalizing t with
  | zero=>intro x hx;simp [scanF] at hx
  | succ n ih=>
    rw [scanF]
    split
    · intro x hx;simp at hx
    · rename_i hne
      split
      · intro x hx;simp at hx
      · rename_i h0
        simp only [ne_eq,Decidable.not_not] at h0
        have hl:=rest_less hne h0
        dsimp only
        split
        · intro x hx;simp at hx
        · intro x hx
          cases hx with
          | head=>
            cases t with
            | nil=>exact absurd rfl hne
            | cons c cs=>
              have:=next_len c cs h0
              show (nextS (c :: cs)).1.text.length ≤ _
              omega
          | tail _ hx=>exact ih _ (by omega) x hx
theorem scan_fit (s:Str) (hs:s.length ≤ 1000000):tokFit (scanS s).1:=by
  unfold scanS
  split
  · intro x hx;simp at hx
  · have:=pass_len (s.length + 1) s
    exact scanF_fit _ _ _ (by unfold passS;omega)
theorem scanF_len (n N:Nat) (t:Str):(scanF n N t).1.length ≤ t.length:=by
  induction n generalizing t with
  | zero=>simp [scanF]
  | succ n ih=>
    rw [scanF]
    split
    · simp
    · rename_i hne
      split
      · simp
      · rename_i h0
        simp only [ne_eq,Decidable.not_not] at h0
        have hl:=rest_less hne h0
        dsimp only
        split
        · simp
        · have:=ih (restS t)
          simp only [List.length_cons];omega
theorem scan_len (s:Str):(scanS s).1.length ≤ s.length:=by
  unfold scanS
  split
  · simp
  · have:=pass_len (s.length + 1) s
    have:=scanF_len (s.length + 1) s.length (passS s)
    unfold passS at *
    omega
theorem Touch.wp {f:Nat} {args:List HV} {l:List Tok} {o:Nat} {s s':PS} {r:HV} (h:Touch f args l o s r s') {B X:List Obj} {c:Obj} {T:List Nat} {lw:Option Nat} {K:HV→St→Prop} (ho:o = B.length + 1) :
    WCall prg f args ⟨B ++ c :: PC l s :: X,T,lw⟩ K = K r ⟨B ++ c :: PC l s' :: X,T,lw⟩:=by
  subst ho
  have h1:∀ y,B ++ c :: y :: X = (B ++ c :: PC l s :: X).set (B.length + 1) y:=by
    intro y
    rw [List.set_append_right _ _ (by omega),show B.length + 1 - B.length = 1 by omega]
    rfl
  rw [h1,h1 (PC l s')]
  exact WCall_of (h _ T lw (by simp)) K
def eqsF (l:List Tok) (N:Nat):Nat→PS→List Eqn × PS × Int × Int
  | 0,s=>([],s,0,0)
  | n + 1,s=>
    if !s.bad && !seesP l wTel s then
      if (eqP l s).bad then ([],eqP l s,0,0)
      else if rightS (eqT l s).e ≠ 0 then ([],s,rightS (eqT l s).e,whereP l N s)
      else let q:=eqsF l N n (eqP l s);(eqT l s :: q.1,q.2)
    else ([],takeP l wTel s,0,0)
def parseS (s:Str):Prog × Int × Int:=
  let r:=scanS s
  if r.2.1 ≠ 0 then (prog0,r.2) else
  let h:=headR r.1 ⟨0,false⟩
  let q:=eqsF r.1 s.length (rem r.1 h.to + 1) h.to
  if q.2.2.1 ≠ 0 then (prog0,q.2.2)
  else if q.2.1.bad || decide (q.2.1.at_ < r.1.length) then (prog0,16,whereP r.1 s.length q.2.1)
  else (⟨h.name,h.ins,h.outs,h.locals,q.1⟩,0,0)
theorem rem_lit {l:List Tok} {s s':PS} {x:Ex} (h:litR l s = some (x,s')):rem l s' ≤ rem l s:=by
  have h1:=rem_takeP l s wMinus
  unfold litR at h
  dsimp only at h
  split at h
  · cases h;exact Nat.le_trans (rem_token _ _ _) h1
  split at h
  · cases h;exact Nat.le_trans (rem_takeP _ _ _) h1
  split at h
  · cases h;exact Nat.le_trans (rem_takeP _ _ _) h1
  · cases h
theorem rem_first {l:List Tok} {s s':PS} {x:Ex} (h:firstR l s = some (x,s')):rem l s' ≤ rem l s:=by
  unfold firstR at h
  split at h
  · cases h
  · rename_i h1
    have h2:=rem_lit h1
    split at h
    · cases h;exact Nat.le_trans (rem_takeP _ _ _) h2
    · cases h
theorem rem_eqP (l:List Tok) {s:PS} (h:s.bad = false):rem l (eqP l s) < rem l s:=by
  have h1:=rem_name (l:=l) (k:=1) h
  have h2:=rem_need l (tokenP l 1 s) wIs
  have h3:rem l (eqAt l s).2.2 ≤ rem l (needP l wIs (tokenP l 1 s)):=by
    unfold eqAt
    generalize needP l wIs (tokenP l 1 s) = s1
    unfold eqFirst
    split
    · exact rem_takeP _ _ _
    · split
      · rename_i h;exact rem_first h
      · exact Nat.le_refl _
  have h4:=rem_expr l (eqAt l s).2.2
  have h5:=rem_need l (exprP l (eqAt l s).2.2) wSemi
  unfold eqP
  omega
theorem eqsF_more (l:List Tok) (N:Nat):∀ n m s,rem l s < n→rem l s < m→eqsF l N n s = eqsF l N m s:=by
  intro n
  induction n with
  | zero=>intro m s h;omega
  | succ n ih=>
    intro m s h h'
    cases m with
    | zero=>omega
    | succ m=>
      simp only [eqsF]
      split
      · rename_i hs
        have h2:=rem_eqP l (s:=s) (by simp at hs;exact hs.1)
        rw [ih m _ (by omega) (by omega)]
      · rfl
theorem enc_eqs_all (acc:List Eqn):(acc.map encEq).all (·.length == 10) = true:=by simp [encEq]
@[go_sem] theorem tipB_false (T:List Nat) (sz:Nat):tipB false T sz = .exact:=(rfl)
@[go_sem] theorem loose_exact (rows:List (List D)):HV.loose1 (.own rows .exact) = false:=(rfl)
@[go_sem] theorem minLow_add2 (a:Nat):minLow (some (a + 2)) (some a) = some a:=by simp [minLow]
theorem foldPC0 (l:List Tok) (b:Bool):Obj.cells [.d (.sl (l.map encTok)),.d (.int .i64 0),.d (.bool b)] = PC l ⟨0,b⟩:=(rfl)
def PaI (S:Str) (l:List Tok) (h:HeadR) (v:HV) (Q:List Eqn × PS × Int × Int) (B:List Obj) (T:List Nat) (m:Nat) (e:Env) (H:St):Prop:=
  ∃ (f:Bool) (acc:List Eqn) (s:PS) (low:Option Nat) (X:List Obj),(low = none ∨ low = some (B.length + 2)) ∧ m = rem l s ∧ acc.length + rem l s ≤ l.length + 1 ∧
    Q = (acc ++ (eqsF l S.length (rem l s + 1) s).1,(eqsF l S.length (rem l s + 1) s).2) ∧
    e = [(0,.d (.str S)),(2,.ref B.length 0),(5,.d (.sl (l.map encTok))),(8,.ref (B.length + 1) 0),(9,.ref (B.length + 2) 0)] ∧
    H = ⟨B ++ .cells [.d (.str []),.own [] .exact,.own [] .exact,.own [] .exact,.own [] .exact] :: PC l s :: .cells [.d (.str h.name),.d (.sl (h.ins.map encVar)),.d (.sl (h.outs.map encVar)),v,.own (acc.map encEq) (tipB f T 10)] :: X,tipC f T acc.length,low⟩
theorem parse_c (S:Str) (hS:S.length ≤ 1000000) (H:St) :
    CallsA prg 11 [.d (.str S)] H (.tup [.agg (dcells (encProg (parseS S).1)),.d (.int .i64 (parseS S).2.1),.d (.int .i64 (parseS S).2.2)]) H:=by
  have hsc:=fun H=>WCall_of (scan_c S hS H)
  have hlen:=scan_len S
  have hfit:=scan_fit S hS
  refine calls_of2 rfl f11 ?_
  obtain ⟨B,T,lw⟩:=H
  simp only [go_sem,c11,hsc]
  refine WG_intro (fun t1=>?_) fun t1=>?_
  · have t1':(scanS S).2.1 ≠ 0:=by simpa using t1
    simp only [go_sem,t1]
    simp [parseS,t1',encProg,prog0,dcells]
  have t1':(scanS S).2.1 = 0:=by simpa using t1
  have hl:(scanS S).1.length ≤ 1000000:=by omega
  have ep:parseS S = parseS S:=rfl
  conv at ep=>rhs;unfold parseS
  simp only [t1',ne_eq,not_true_eq_false,if_false] at ep
  generalize (scanS S).1 = l at *
  obtain ⟨v,hv,hh⟩:=head_t hl (B.length + 1) ⟨0,false⟩
  have c1:=@Touch.wp _ _ _ _ _ _ _ (hh)
  have hv1:v.flat1 = true:=by rcases hv with rfl | ⟨rfl,_⟩ <;> rfl
  have hv2:v.loose1 = false:=by rcases hv with rfl | ⟨rfl,_⟩ <;> rfl
  simp only [go_sem,t1,PS.eta,foldPC0,c1,headV,hv1,hv2]
  clear c1 hh t1 t1' hsc
  generalize headR l ⟨0,false⟩ = h at *
  generalize hQ:eqsF l S.length (rem l h.to + 1) h.to = Q at *
  refine loop_I (PaI S l h v Q B T) (rem l h.to) ⟨false,[],h.to,none,[],.inl rfl,rfl,?_,?_,rfl,rfl⟩ ?_
  · have:=rem_le l h.to;simp;omega
  · rw [hQ];rfl
  rintro m e H ⟨f,acc,s,low,X,hlow,rfl,hacc,hq,rfl,rfl⟩
  have hl0:lowOk B.length low = true:=by rcases hlow with rfl | rfl <;> simp [lowOk]
  rw [eqsF] at hq
  have hend:∀ s',Q = (acc,s',0,0)→(s'.bad || decide (s'.at_ < l.length)) = true→parseS S = (prog0,16,whereP l S.length s'):=by
    intro s' h1 h2;rw [ep,h1];simp [h2]
  cases hb:s.bad with
  | true=>
    simp only [hb,Bool.not_true,Bool.false_and,Bool.false_eq_true,if_false,List.append_nil] at hq
    have c2:=@Touch.wp _ _ _ _ _ _ _ (where_t hl (B.length + 1) S.length s)
    have htk:takeP l wTel s = s:=by simp [takeP,seesP,nextP,hb]
    simp only [go_sem,c11l0,cellsPC,hb,c2,hl0]
    rw [hend s (by rw [hq,htk]) (by simp [hb])]
    simp [encProg,prog0,dcells]
  | false=>
    have c2:=@Touch.wp _ _ _ _ _ _ _ (take_t hl (B.length + 1) wTel s)
    simp only [go_sem,c11l0,cellsPC,hb,c2]
    refine WG_intro (fun ht=>?_) fun ht=>?_
    · simp only [hb,ht,Bool.not_true,Bool.and_false,Bool.false_eq_true,if_false,List.append_nil] at hq
      have hb':(takeP l wTel s).bad = false:=by simp [takeP,ht,hb]
      simp only [go_sem,ht,cellsPC,hb']
      refine WG_intro (fun h2=>?_) fun h2=>?_
      · have c3:=@Touch.wp _ _ _ _ _ _ _ (where_t hl (B.length + 1) S.length (takeP l wTel s))
        simp only [go_sem,h2,c3,hl0]
        have h2':(takeP l wTel s).at_ < l.length:=by simp at h2;omega
        rw [hend _ hq (by simp [h2'])]
        simp [encProg,prog0,dcells]
      · have h2':¬ (takeP l wTel s).at_ < l.length:=by simp at h2;omega
        have hp:parseS S = (⟨h.name,h.ins,h.outs,h.locals,acc⟩,0,0):=by rw [ep,hq];simp [hb',h2']
        have hp':HV.agg (dcells (encProg (parseS S).1)) = .agg [.d (.str h.name),.d (.sl (h.ins.map encVar)),.d (.sl (h.outs.map encVar)),.d (.sl (h.locals.map encVar)),.d (.sl (acc.map encEq))]:=by rw [hp];rfl
        have hp1:(parseS S).2.1 = 0:=by rw [hp]
        have hp2:(parseS S).2.2 = 0:=by rw [hp]
        rw [hp',hp1,hp2]
        cases f
        all_goals
          rcases hlow with rfl | rfl
          all_goals
            rcases hv with rfl | ⟨rfl,hv⟩
            · simp only [go_sem,h2,hl0]
            · rw [hv]
              simp only [go_sem,h2,hl0]
    · simp only [hb,ht,Bool.not_false,Bool.and_true,if_true] at hq
      have htk:takeP l wTel s = s:=take_no ht
      have c3:=@Touch.wp _ _ _ _ _ _ _ (where_t hl (B.length + 1) S.length s)
      have c4:=@Touch.wp _ _ _ _ _ _ _ (eq_t hl (B.length + 1) s)
      simp only [go_sem,ht,htk,c3,c4,encEq,cellsPC]
      refine WG_intro (fun h3=>?_) fun h3=>?_
      · rw [if_pos h3] at hq
        simp only [List.append_nil] at hq
        have c5:=@Touch.wp _ _ _ _ _ _ _ (where_t hl (B.length + 1) S.length (eqP l s))
        simp only [go_sem,h3,cellsPC,c5,hl0]
        rw [hend _ hq (by simp [h3])]
        simp [encProg,prog0,dcells]
      · rw [if_neg (by simp [h3])] at hq
        have hef:(eqT l s).e.fit = true:=expr_fit hfit _
        have hr:=fun H=>WCall_of (right_c (eqT l s).e hef H)
        unfold exV at hr
        simp only [go_sem] at hr
        simp only [go_sem,h3,hr]
        refine WG_intro (fun h4=>?_) fun h4=>?_
        · have h4':rightS (eqT l s).e ≠ 0:=by simpa using h4
          rw [if_pos h4'] at hq
          simp only [go_sem,h4,hl0]
          have hp:parseS S = (prog0,rightS (eqT l s).e,whereP l S.length s):=by rw [ep,hq];simp [h4']
          rw [hp]
          simp [encProg,prog0,dcells]
        · have h4':rightS (eqT l s).e = 0:=by simpa using h4
          rw [if_neg (by simp [h4'])] at hq
          have h2:=rem_eqP l (s:=s) hb
          rw [eqsF_more l S.length (rem l s) (rem l (eqP l s) + 1) _ (by omega) (by omega)] at hq
          have hap:∀ (B:List Obj) (lw:Option Nat) (r:List D),appendV ⟨B,tipC f T acc.length,lw⟩ 10 (.own (acc.map encEq) (tipB f T 10)) [r] = some (.own (acc.map encEq ++ [r]) (tipB true T 10),⟨B,tipC true T (acc.length + 1),lw⟩):=by
            intro B lw r
            have:=appendV_tip (B:=B) (T:=T) (lw:=lw) (sz:=10) (f:=f) (rows:=acc.map encEq) (ys:=[r]) (by simp) (enc_eqs_all acc) (by simp [roomN];omega)
            simpa using this
          simp only [go_sem,h4,hap]
          refine ⟨rem l (eqP l s),h2,true,acc ++ [eqT l s],eqP l s,minLow low (some (B.length + 2)),X ++ [.cells (dcells (encEq (eqT l s)))],.inr ?_,rfl,by simp;omega,by rw [hq];simp,rfl,?_⟩
          · rcases hlow with rfl | rfl <;> simp [minLow]
          · simp [encEq,dcells]
end Am
namespace Am
open Go C
mutual
def sameE:Ex→Ex→Bool
  | .mk k n nm l,b=>(k == b.kind) && ((n == b.n) && ((nm == b.name) && sameL l b.sub))
def sameL:List Ex→List Ex→Bool
  | [],[]=>true
  | x :: xs,y :: ys=>sameE x y && sameL xs ys
  | _,_=>false
end
theorem sameE_eq (a b:Ex):sameE a b = ((a.kind == b.kind) && ((a.n == b.n) && ((a.name == b.name) && sameL a.sub b.sub))):=by cases a;rw [sameE];rfl
theorem sameL_nil:sameL [] [] = true:=by rw [sameL]
theorem sameL_cons (x y:Ex) (xs ys:List Ex):sameL (x :: xs) (y :: ys) = (sameE x y && sameL xs ys):=by rw [sameL]
theorem sameL_len {a b:List Ex} (h:sameL a b = true):a.length = b.length:=by
  induction a generalizing b with
  | nil=>cases b with
    | nil=>rfl
    | cons y b=>simp [sameL] at h
  | cons x a ih=>cases b with
    | nil=>simp [sameL] at h
    | cons y b=>
      rw [sameL_cons] at h
      simp only [Bool.and_eq_true] at h
      simp [ih h.2]
def cellsE (x:Ex):Obj:=.cells [.d (.int .i64 x.kind),.d (.int .i32 x.n),.d (.str x.name),.d (.sl (encL x.sub))]
@[go_sem] theorem cellsE_eq (x:Ex):cellsE x = .cells [.d (.int .i64 x.kind),.d (.int .i32 x.n),.d (.str x.name),.d (.sl (encL x.sub))]:=(rfl)
def SmI (x y:Ex) (B:List Obj) (T:List Nat) (k:Nat) (e:Env) (H:St):Prop:=
  ∃ (i:Nat),k = x.sub.length - i ∧ i ≤ x.sub.length ∧ sameL (x.sub.drop i) (y.sub.drop i) = sameL x.sub y.sub ∧
    e = [(3,.ref (B.length + 1) 0),(36,.d (.sl (encL x.sub))),(37,.d (.int .i64 x.sub.length)),(38,.d (.int .i64 i))] ∧ H = ⟨B ++ [cellsE x,cellsE y],T,none⟩
theorem same_c:∀ (n:Nat) (x:Ex),x.size ≤ n→x.fit = true→∀ (y:Ex) (H:St),CallsA prg 73 [exV x,exV y] H (.d (.bool (sameE x y))) H:=by
  intro n
  induction n with
  | zero=>intro x h;have:=size_pos x;omega
  | succ n ih=>
    intro x hx hf y H
    have hse:=sameE_eq x y
    have hsz:=x.size_eq
    rw [x.fit_eq] at hf
    simp only [Bool.and_eq_true,decide_eq_true_eq] at hf
    unfold exV
    refine calls_of2 rfl f73 ?_
    obtain ⟨B,T,lw⟩:=H
    simp only [go_sem,c73]
    by_cases t1:x.kind = y.kind
    case neg=>
      have t1':(x.kind != y.kind) = true:=by simpa using t1
      simp only [go_sem,t1']
      rw [hse];simp [t1]
    have t1':(x.kind != y.kind) = false:=by simpa using t1
    simp only [go_sem,t1']
    by_cases t2:x.n = y.n
    case neg=>
      have t2':(x.n != y.n) = true:=by simpa using t2
      simp only [go_sem,t2']
      rw [hse];simp [t2]
    have t2':(x.n != y.n) = false:=by simpa using t2
    simp only [go_sem,t2']
    by_cases t3:x.name = y.name
    case neg=>
      have t3':(x.name != y.name) = true:=by simpa using t3
      have t3'':(x.name == y.name) = false:=by simpa using t3
      simp only [go_sem,t3',t3'']
      rw [hse];simp [t3]
    have t3':(x.name != y.name) = false:=by simpa using t3
    have t3'':(x.name == y.name) = true:=by simpa using t3
    simp only [go_sem,t3',t3'']
    by_cases t4:x.sub.length = y.sub.length
    case neg=>
      have t4':((x.sub.length:Int) != (y.sub.length:Int)) = true:=by simp;omega
      simp only [go_sem,t4']
      rw [hse]
      cases h:sameL x.sub y.sub with
      | true=>exact absurd (sameL_len h) t4
      | false=>simp
    have t4':((x.sub.length:Int) != (y.sub.length:Int)) = false:=by simp;omega
    simp only [go_sem,t4']
    have hall:sameE x y = sameL x.sub y.sub:=by rw [hse];simp [t1,t2,t3]
    refine loop_I (SmI x y B T) x.sub.length ⟨0,rfl,Nat.zero_le _,rfl,rfl,rfl⟩ ?_
    rintro k e H ⟨i,rfl,hi,hv,rfl,rfl⟩
    simp only [go_sem,c73l0]
    refine WG_intro (fun h=>?_) fun h=>?_
    · have hlt:i < x.sub.length:=by simpa using h
      obtain ⟨a,ha⟩:=at_of_lt hlt
      obtain ⟨b,hb⟩:=at_of_lt (l:=y.sub) (i:=i) (by omega)
      have hmem:=List.mem_of_getElem? ha
      have haf:=fitL_mem hf.2.2 hmem
      have has:=sizeL_mem hmem
      rw [drop_at ha,drop_at hb,sameL_cons] at hv
      have e2:(encL x.sub)[i]? = some (encE a):=by rw [encL_at,ha];rfl
      have e3:(encL y.sub)[i]? = some (encE b):=by rw [encL_at,hb];rfl
      have hrec:=fun H=>WCall_of (ih a (by omega) haf b H)
      unfold exV at hrec
      simp only [go_sem] at hrec
      simp only [go_sem,h,e2,e3,hrec]
      refine WG_intro (fun h2=>?_) fun h2=>?_
      · simp only [go_sem,h2]
        rw [wrap64 (by omega) (by omega)]
        exact ⟨_,by omega,i + 1,rfl,by omega,by rw [← hv,h2];rfl,rfl,rfl⟩
      · simp only [go_sem,h2]
        rw [hall,← hv,h2];simp
    · have hlt:x.sub.length ≤ i:=by simpa using h
      rw [List.drop_of_length_le hlt,List.drop_of_length_le (by omega),sameL_nil] at hv
      simp only [go_sem,h]
      rw [hall,← hv]
def literalS (x:Ex):Bool:=decide (rightS x = 0) && (if x.kind = 4 ∧ x.n = 1 then (match x.sub with | []=>false | y :: _=>y.kind == 1) else (x.kind == 1 || x.kind == 2))
theorem right_formed {x:Ex} (h:rightS x = 0):x.formed = true:=by
  unfold rightS at h
  split at h
  · omega
  · split at h
    · omega
    · split at h
      · assumption
      · omega
theorem literal_c (x:Ex) (hf:x.fit = true) (H:St):CallsA prg 72 [exV x] H (.d (.bool (literalS x))) H:=by
  have h1:=fun H=>WCall_of (right_c x hf H)
  unfold exV at h1 ⊢
  simp only [go_sem] at h1
  refine calls_of2 rfl f72 ?_
  obtain ⟨B,T,lw⟩:=H
  simp only [go_sem,c72,h1]
  refine WG_intro (fun t1=>?_) fun t1=>?_
  · have:¬ rightS x = 0:=by simpa using t1
    simp only [go_sem,t1]
    simp [literalS,this]
  · have hr:rightS x = 0:=by simpa using t1
    have hfo:=right_formed hr
    rw [x.formed_eq] at hfo
    simp only [go_sem,t1]
    by_cases t2:x.kind = 4
    · by_cases t3:x.n = 1
      · cases hsub:x.sub with
        | nil=>rw [hsub,t2] at hfo;simp [formedA,formS] at hfo
        | cons y ys=>
          simp only [go_sem,t2,t3,hsub]
          simp [literalS,hr,t2,t3,hsub]
      · have t3':(x.n == 1) = false:=by simpa using t3
        simp only [go_sem,t2,t3']
        simp [literalS,hr,t2,t3]
    · have t2':(x.kind == 4) = false:=by simpa using t2
      simp only [go_sem,t2']
      refine WG_intro (fun t4=>?_) fun t4=>?_
      · simp only [go_sem,t4]
        simp at t4
        simp [literalS,hr,t2,t4]
      · simp only [go_sem,t4]
        simp at t4
        simp [literalS,hr,t2,t4]
def variableS (v:Var) (own:Bool):Bool:=
  nameS v.name && (decide (v.ty = 1 ∨ v.ty = 2) && (if v.clk.kind = 0 then decide (v.clk.name = []) else if v.clk.kind = 1 ∨ v.clk.kind = 2 then own && nameS v.clk.name else false))
def Var.fit (v:Var):Prop:=v.name.length ≤ 1000 ∧ v.clk.name.length ≤ 1000
theorem variable_c (v:Var) (hv:v.fit) (own:Bool) (H:St):CallsA prg 71 [.agg (dcells (encVar v)),.d (.bool own)] H (.d (.bool (variableS v own))) H:=by
  have h1:=fun H=>WCall_of (name_c v.name (by have:=hv.1;omega) H)
  have h2:=fun H=>WCall_of (name_c v.clk.name (by have:=hv.2;omega) H)
  unfold encVar
  simp only [dcells_cons,dcells_nil]
  refine calls_of2 rfl f71 ?_
  obtain ⟨B,T,lw⟩:=H
  simp only [go_sem,c71,h1]
  by_cases t1:nameS v.name = true
  case neg=>
    have t1':nameS v.name = false:=by simpa using t1
    simp only [go_sem,t1']
    simp [variableS,t1']
  simp only [go_sem,t1]
  by_cases t2:v.ty = 1 ∨ v.ty = 2
  case neg=>
    have t2':(v.ty != 1) = true:=by simp;omega
    have t2'':(v.ty != 2) = true:=by simp;omega
    simp only [go_sem,t2',t2'']
    simp [variableS,t2]
  have t2a:(if (v.ty != 1) = true then (v.ty != 2) else false) = false:=by
    rcases t2 with h | h <;> simp [h]
  rcases t2 with t2 | t2
  all_goals
    simp only [go_sem,t2]
    repeat' (refine WG_intro ?_ ?_ <;> intro h <;> (try simp only [go_sem,h,h2]))
    all_goals simp_all [variableS]
    all_goals (cases v.clk.name <;> simp)
def declaredS (v:Var):Str:=
  (v.name ++ (if v.ty = 2 then [32,58,32,98,111,111,108] else [32,58,32,105,110,116])) ++
    (if v.clk.kind = 1 then [32,119,104,101,110,32] ++ v.clk.name else if v.clk.kind = 2 then [32,117,110,108,101,115,115,32] ++ v.clk.name else [])
theorem declared_len {v:Var} (hv:v.fit):(declaredS v).length ≤ 2020:=by
  have:=hv.1
  have:=hv.2
  unfold declaredS
  split <;> split <;> (try split) <;> simp <;> omega
theorem declared_c (v:Var) (hv:v.fit) (H:St):CallsA prg 32 [.agg (dcells (encVar v))] H (.d (.str (declaredS v))) H:=by
  have h1:=hv.1
  have h2:=hv.2
  unfold encVar
  simp only [dcells_cons,dcells_nil]
  refine calls_of2 rfl f32 ?_
  obtain ⟨B,T,lw⟩:=H
  simp only [go_sem,c32]
  refine ⟨by omega,?_⟩
  refine WG_intro (fun t1=>?_) fun t1=>?_
  all_goals
    simp only [go_sem,t1]
    (try refine ⟨by omega,?_⟩)
    refine WG_intro (fun t2=>?_) fun t2=>?_
    · simp only [go_sem,t2]
      refine ⟨by omega,by omega,?_⟩
      simp_all [declaredS]
    · simp only [go_sem,t2]
      refine WG_intro (fun t3=>?_) fun t3=>?_
      · simp only [go_sem,t3]
        refine ⟨by omega,by omega,?_⟩
        simp_all [declaredS]
      · simp only [go_sem,t3]
        simp_all [declaredS]
def restS2 (l:List Var):Str:=(l.map fun v=>[59,32] ++ declaredS v).flatten
def listS (l:List Var):Str:=[40] ++ (match l with | []=>[] | v :: vs=>declaredS v ++ restS2 vs) ++ [41]
def LsI (l:List Var) (B:List Obj) (T:List Nat) (k:Nat) (e:Env) (H:St):Prop:=
  ∃ (i:Nat) (acc:Str),k = l.length - i ∧ i ≤ l.length ∧ acc.length ≤ 1 + 2022 * i ∧ listS l = acc ++ (if i = 0 then (match l with | []=>[] | v :: vs=>declaredS v ++ restS2 vs) else restS2 (l.drop i)) ++ [41] ∧
    e = [(3,.d (.str acc)),(6,.d (.sl (l.map encVar))),(7,.d (.int .i64 l.length)),(8,.d (.int .i64 i))] ∧ H = ⟨B,T,none⟩
def varsFit (l:List Var):Prop:=l.length ≤ 1000000 ∧ ∀ v ∈ l,v.fit
theorem list_c (l:List Var) (hl:varsFit l) (H:St):CallsA prg 31 [.d (.sl (l.map encVar))] H (.d (.str (listS l))) H:=by
  have hl1:=hl.1
  refine calls_of2 rfl f31 ?_
  obtain ⟨B,T,lw⟩:=H
  simp only [go_sem,c31,List.length_map]
  refine loop_I (LsI l B T) l.length ⟨0,[40],rfl,Nat.zero_le _,by simp,rfl,rfl,rfl⟩ ?_
  rintro k e H ⟨i,acc,rfl,hi,hac,hv,rfl,rfl⟩
  simp only [go_sem,c31l0]
  refine WG_intro (fun h=>?_) fun h=>?_
  · have hlt:i < l.length:=by simpa using h
    obtain ⟨a,ha⟩:=at_of_lt hlt
    have haf:=hl.2 a (List.mem_of_getElem? ha)
    have e2:(l.map encVar)[i]? = some (encVar a):=by simp [ha]
    have hd:=fun H=>WCall_of (declared_c a haf H)
    have hdl:=declared_len haf
    unfold encVar at hd
    simp only [dcells_cons,dcells_nil] at hd
    rw [drop_at ha] at hv
    simp only [go_sem,h,e2,encVar]
    refine WG_intro (fun h2=>?_) fun h2=>?_
    · have h2':i ≠ 0:=by simp at h2;omega
      simp only [go_sem,h2,hd]
      refine ⟨by omega,by omega,?_⟩
      rw [wrap64 (by omega) (by omega)]
      refine ⟨_,by omega,i + 1,acc ++ [59,32] ++ declaredS a,rfl,by omega,by simp;omega,?_,by simp,rfl⟩
      rw [hv]
      simp [h2',restS2]
    · have h2':i = 0:=by simp at h2;omega
      subst h2'
      simp only [go_sem,h2,hd]
      refine ⟨by omega,?_⟩
      rw [wrap64 (by omega) (by omega)]
      refine ⟨l.length - 1,by omega,1,acc ++ declaredS a,rfl,by omega,by simp;omega,?_,by simp,rfl⟩
      rw [hv]
      cases l with
      | nil=>simp at hlt
      | cons b l=>simp at ha;simp [ha]
  · have hlt:l.length ≤ i:=by simpa using h
    simp only [go_sem,h]
    refine ⟨by omega,?_⟩
    rw [hv]
    by_cases h2:i = 0
    · subst h2
      cases l with
      | nil=>simp
      | cons b l=>simp at hlt
    · rw [List.drop_of_length_le hlt];simp [h2,restS2]
end Am
