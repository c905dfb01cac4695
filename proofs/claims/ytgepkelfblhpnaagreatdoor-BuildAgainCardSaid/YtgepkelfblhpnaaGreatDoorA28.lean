/- A part of the proof of BuildAgain: no condition of its own. Whence: AmKind2, AmKind3. -/
import Derived.Test.YtgepkelfblhpnaaGreatDoorA27
set_option linter.all false
namespace Am
open Go C
def twoS (op t:Int):Int × Bool:=
  if op = 8 ∨ op = 9 ∨ op = 10 then (t,true) else if op = 11 ∨ op = 12 then (2,true) else if op = 13 ∨ op = 14 ∨ op = 15 ∨ op = 16 then (2,t == 1) else (1,t == 1)
theorem two_c (op t:Int) (H:St):CallsA prg 271 [.d (.int .i32 op),.d (.int .i64 t)] H (.tup [.d (.int .i64 (twoS op t).1),.d (.bool (twoS op t).2)]) H:=by
  refine calls_of2 rfl f271 ?_
  obtain ⟨B,T,lw⟩:=H
  simp only [go_sem,c271]
  repeat' (refine WG_intro ?_ ?_ <;> intro h <;> (try simp only [go_sem,h]))
  all_goals simp_all [twoS]
def ofR (vs:List Var) (k n:Int) (nm:Str) (t:List Int):Int × Bool:=
  if k = 1 then (1,true) else if k = 2 then (2,true) else if k = 3 then ((typeOfS vs nm).1,true)
  else if k = 4 then (t.getD 0 0,(t.getD 0 0 == 1 && n == 1) || (t.getD 0 0 == 2 && n == 2))
  else if k = 5 then ((twoS n (t.getD 0 0)).1,(twoS n (t.getD 0 0)).2 && (t.getD 0 0 == t.getD 1 0))
  else if k = 6 then (t.getD 1 0,(t.getD 0 0 == 2) && (t.getD 1 0 == t.getD 2 0))
  else if k = 7 then (t.getD 0 0,t.getD 0 0 == t.getD 1 0)
  else if k = 8 ∨ k = 9 then (t.getD 0 0,(typeOfS vs nm).1 == 2)
  else if k = 10 then (t.getD 0 0,((typeOfS vs nm).1 == 2) && (t.getD 0 0 == t.getD 1 0)) else (0,true)
def ofK (vs:List Var) (k n:Int) (nm:Str) (t:List Int):Int × Int:=
  if nm ≠ [] ∧ (typeOfS vs nm).2 = false then (0,19)
  else if (ofR vs k n nm t).2 = true ∧ ((ofR vs k n nm t).1 = 1 ∨ (ofR vs k n nm t).1 = 2) then ((ofR vs k n nm t).1,0) else (0,20)
mutual
def ofE (vs:List Var):Ex→Int × Int
  | .mk k n nm l=>if (ptsL vs l).2 ≠ 0 then (0,(ptsL vs l).2) else ofK vs k n nm (ptsL vs l).1
def ptsL (vs:List Var):List Ex→List Int × Int
  | []=>([],0)
  | x :: xs=>if (ofE vs x).2 ≠ 0 then ([],(ofE vs x).2) else if (ptsL vs xs).2 ≠ 0 then ([],(ptsL vs xs).2) else ((ofE vs x).1 :: (ptsL vs xs).1,0)
end
theorem ofE_eq (vs:List Var) (x:Ex):ofE vs x = if (ptsL vs x.sub).2 ≠ 0 then (0,(ptsL vs x.sub).2) else ofK vs x.kind x.n x.name (ptsL vs x.sub).1:=by cases x;rw [ofE];rfl
theorem ptsL_nil (vs:List Var):ptsL vs [] = ([],0):=by rw [ptsL]
theorem ptsL_cons (vs:List Var) (x:Ex) (xs:List Ex):ptsL vs (x :: xs) = if (ofE vs x).2 ≠ 0 then ([],(ofE vs x).2) else if (ptsL vs xs).2 ≠ 0 then ([],(ptsL vs xs).2) else ((ofE vs x).1 :: (ptsL vs xs).1,0):=by rw [ptsL]
theorem ptsL_len (vs:List Var) (l:List Ex) (h:(ptsL vs l).2 = 0):(ptsL vs l).1.length = l.length:=by
  induction l with
  | nil=>rw [ptsL_nil];rfl
  | cons x l ih=>
    rw [ptsL_cons] at h ⊢
    by_cases h1:(ofE vs x).2 ≠ 0
    · rw [if_pos h1] at h;exact absurd h h1
    · rw [if_neg h1] at h ⊢
      by_cases h2:(ptsL vs l).2 ≠ 0
      · rw [if_pos h2] at h;exact absurd h h2
      · rw [if_neg h2]
        simp only [ne_eq,Decidable.not_not] at h2
        simp [ih h2]
def intRows (l:List Int):List (List D):=l.map fun t=>[.int .i64 t]
def PtI (vs:List Var) (x:Ex) (o:Nat) (B:List Obj) (T:List Nat) (k:Nat) (e:Env) (H:St):Prop:=
  ∃ (i:Nat) (acc:List Int),k = x.sub.length - i ∧ i ≤ x.sub.length ∧ acc.length = i ∧
    ptsL vs x.sub = (if (ptsL vs (x.sub.drop i)).2 ≠ 0 then ([],(ptsL vs (x.sub.drop i)).2) else (acc ++ (ptsL vs (x.sub.drop i)).1,0)) ∧
    e = [(2,.ref B.length 0),(6,.own (intRows acc) (tipT T 1 (intRows acc))),(12,.d (.sl (encL x.sub))),(13,.d (.int .i64 x.sub.length)),(14,.d (.int .i64 i))] ∧
    H = ⟨B ++ [.cells [.d (.sl (vs.map encVar)),.map o],cellsE x],tipL T (intRows acc),none⟩
theorem LookB.app {vs:List Var} {o:Nat} {B:List Obj} (h:LookB vs o B) (X:List Obj):LookB vs o (B ++ X):=by
  unfold LookB at h ⊢
  rw [List.getElem?_append_left (lt_of_some h)];exact h
theorem of_c (vs:List Var):∀ (n:Nat) (x:Ex),x.size ≤ n→x.fit = true→x.formed = true→∀ (o:Nat) (B:List Obj) (T:List Nat) (lw:Option Nat),LookB vs o B →
    CallsA prg 269 [lookV vs o,exV x] ⟨B,T,lw⟩ (.tup [.d (.sl (intRows (ptsL vs x.sub).1)),.d (.int .i64 (ptsL vs x.sub).2)]) ⟨B,T,lw⟩ ∧
    CallsA prg 255 [lookV vs o,exV x] ⟨B,T,lw⟩ (.tup [.d (.int .i64 (ofE vs x).1),.d (.int .i64 (ofE vs x).2)]) ⟨B,T,lw⟩:=by
  intro n
  induction n with
  | zero=>intro x h;have:=size_pos x;omega
  | succ n ih=>
    intro x hx hf hfo o B T lw ho
    have hlen:=formed_len hfo
    have hsz:=x.size_eq
    have hoe:=ofE_eq vs x
    have hf0:=hf
    rw [x.fit_eq] at hf
    simp only [Bool.and_eq_true,decide_eq_true_eq] at hf
    rw [x.formed_eq] at hfo
    simp only [Bool.and_eq_true] at hfo
    have hol:=lt_of_some ho
    have hA:∀ (B:List Obj) (T:List Nat) (lw:Option Nat),LookB vs o B→CallsA prg 269 [lookV vs o,exV x] ⟨B,T,lw⟩ (.tup [.d (.sl (intRows (ptsL vs x.sub).1)),.d (.int .i64 (ptsL vs x.sub).2)]) ⟨B,T,lw⟩:=by
      clear hol ho
      intro B T lw ho
      have hol:=lt_of_some ho
      refine calls_of2 rfl f269 ?_
      unfold exV lookV
      have hbo:decide (o < B.length) = true:=by simpa using hol
      simp only [go_sem,c269,hbo]
      refine loop_I (PtI vs x o B T) x.sub.length ⟨0,[],rfl,Nat.zero_le _,rfl,?_,rfl,?_⟩ ?_
      · simp only [List.drop_zero,List.nil_append]
        split
        · rename_i h
          cases hs:x.sub with
          | nil=>rw [hs,ptsL_nil] at h;exact absurd rfl h
          | cons a l=>
            rw [hs] at h
            rw [ptsL_cons] at h ⊢
            split at h <;> rename_i h1
            · rw [if_pos h1]
            · rw [if_neg h1]
              split at h <;> rename_i h2
              · rw [if_pos h2]
              · exact absurd rfl h
        · rename_i h
          simp only [ne_eq,Decidable.not_not] at h
          rw [← h]
      · rfl
      rintro k e H ⟨i,acc,rfl,hi,hai,hv,rfl,rfl⟩
      simp only [go_sem,c269l0]
      refine WG_intro (fun h=>?_) fun h=>?_
      · have hlt:i < x.sub.length:=by simpa using h
        obtain ⟨y,hy⟩:=at_of_lt hlt
        have hmem:=List.mem_of_getElem? hy
        have hyf:=fitL_mem hf.2.2 hmem
        have hyo:=formedL_mem hfo.2 hmem
        have hys:=sizeL_mem hmem
        have e2:(encL x.sub)[i]? = some (encE y):=by rw [encL_at,hy];rfl
        have hrec:=fun (X:List Obj) (T:List Nat) (lw:Option Nat)=>WCall_of (ih y (by omega) hyf hyo o (B ++ X) T lw (ho.app X)).2
        unfold exV lookV at hrec
        simp only [go_sem] at hrec
        have hap:∀ (B:List Obj) (lw:Option Nat) (r:List D),r.length = 1→appendV ⟨B,tipL T (intRows acc),lw⟩ 1 (.own (intRows acc) (tipT T 1 (intRows acc))) [r] = some (.own (intRows acc ++ [r]) (tipT T 1 (intRows acc ++ [r])),⟨B,tipL T (intRows acc ++ [r]),lw⟩):=
          fun B lw r _=>appendV_own (by simp) (by simp [intRows]) (by simp [roomN,intRows];omega)
        have hap':=fun B lw s=>hap B lw [.int .i64 s] rfl
        rw [drop_at hy,ptsL_cons] at hv
        simp only [go_sem,h,e2,hrec,hap']
        refine WG_intro (fun h1=>?_) fun h1=>?_
        · have h1':(ofE vs y).2 ≠ 0:=by simpa using h1
          rw [if_pos h1'] at hv
          rw [if_pos h1'] at hv
          simp only [go_sem,h1]
          rw [hv];rfl
        · have h1':(ofE vs y).2 = 0:=by simpa using h1
          simp only [h1',ne_eq,not_true_eq_false,if_false] at hv
          simp only [go_sem,h1,hap']
          rw [wrap64 (by omega) (by omega)]
          refine ⟨_,by omega,i + 1,acc ++ [(ofE vs y).1],rfl,by omega,by simp [hai],?_,?_,?_⟩
          · rw [hv]
            by_cases h2:(ptsL vs (x.sub.drop (i + 1))).2 = 0
            · simp [h2]
            · simp [h2]
          · simp [intRows]
          · simp [intRows,go_sem]
      · have hlt:x.sub.length ≤ i:=by simpa using h
        rw [List.drop_of_length_le hlt,ptsL_nil] at hv
        simp only [ne_eq,not_true_eq_false,if_false,List.append_nil] at hv
        simp only [go_sem,h]
        rw [hv]
    refine ⟨hA B T lw ho,?_⟩
    refine calls_of2 rfl f255 ?_
    have hbo:decide (o < B.length) = true:=by simpa using hol
    have hp:=fun (X:List Obj) (T:List Nat) (lw:Option Nat)=>WCall_of (hA (B ++ X) T lw (ho.app X))
    have ht:=fun (X:List Obj) (T:List Nat) (lw:Option Nat)=>WCall_of (typeOf_c vs x.name (B ++ X) T lw o (ho.app X))
    unfold exV lookV at hp ht
    simp only [go_sem] at hp ht
    unfold exV lookV
    simp only [go_sem,c255,hbo,hp]
    refine WG_intro (fun h1=>?_) fun h1=>?_
    · have h1':(ptsL vs x.sub).2 ≠ 0:=by simpa using h1
      simp only [go_sem,h1]
      rw [hoe,if_pos h1']
    have h1':(ptsL vs x.sub).2 = 0:=by simpa using h1
    rw [if_neg (by simp [h1'])] at hoe
    have hpl:=ptsL_len vs x.sub h1'
    generalize (ptsL vs x.sub).1 = t at *
    have hal:(t.length:Int) = (formS x.kind).1:=by rw [hpl,hlen]
    have a1:t.length = 1→∃ a,t = [a]:=fun h=>List.length_eq_one_iff.1 h
    have a2:t.length = 2→∃ a b,t = [a,b]:=fun h=>by
      match t,h with
      | [a,b],_=>exact ⟨a,b,rfl⟩
    have a3:t.length = 3→∃ a b c,t = [a,b,c]:=fun h=>by
      match t,h with
      | [a,b,c],_=>exact ⟨a,b,c,rfl⟩
    clear hp hA
    simp only [go_sem,h1,ht]
    have h19:(x.name != [] && !(typeOfS vs x.name).2) = true→ofE vs x = (0,19):=by
      intro h;rw [hoe];unfold ofK;rw [if_pos (by simpa using h)]
    have hnx:¬ (x.name ≠ [] ∧ (typeOfS vs x.name).2 = false)→ofE vs x = if (ofR vs x.kind x.n x.name t).2 = true ∧ ((ofR vs x.kind x.n x.name t).1 = 1 ∨ (ofR vs x.kind x.n x.name t).1 = 2) then ((ofR vs x.kind x.n x.name t).1,0) else (0,20):=by
      intro h;rw [hoe];unfold ofK;rw [if_neg h]
    by_cases hn:x.name = []
    · have hn':(x.name != []) = false:=by simpa using hn
      have hn'':(x.name == []) = true:=by simpa using hn
      have hoK:=hnx (by simp [hn])
      simp only [go_sem,hn',hn'']
      clear ht h1 h1' hpl hlen hfo hf hf0 hx hsz hol hbo hoe h19 hnx hn hn' hn''
      refine WG_intro (fun tk=>?_) fun tk=>?_
      · have hk:x.kind = 1:=by simpa using tk
        rw [hk] at hoK hal
        have hR:ofR vs 1 x.n x.name t = (1,true):=by simp [ofR]
        rw [hR] at hoK
        simp only [go_sem,tk,intRows,List.map_cons,List.map_nil]
        clear hal a1 a2 a3 hR tk hk
        rw [hoK];clear hoK
        repeat' (refine WG_intro ?_ ?_ <;> intro h <;> (try simp only [go_sem,h]))
        all_goals simp_all
      have n1:x.kind ≠ 1:=by simpa using tk
      simp only [go_sem,tk]
      clear tk
      refine WG_intro (fun tk=>?_) fun tk=>?_
      · have hk:x.kind = 2:=by simpa using tk
        rw [hk] at hoK hal
        have hR:ofR vs 2 x.n x.name t = (2,true):=by simp [ofR]
        rw [hR] at hoK
        simp only [go_sem,tk,intRows,List.map_cons,List.map_nil]
        clear hal a1 a2 a3 hR tk hk
        rw [hoK];clear hoK
        repeat' (refine WG_intro ?_ ?_ <;> intro h <;> (try simp only [go_sem,h]))
        all_goals simp_all
      have n2:x.kind ≠ 2:=by simpa using tk
      simp only [go_sem,tk]
      clear tk
      refine WG_intro (fun tk=>?_) fun tk=>?_
      · have hk:x.kind = 3:=by simpa using tk
        rw [hk] at hoK hal
        have hR:ofR vs 3 x.n x.name t = ((typeOfS vs x.name).1,true):=by simp [ofR]
        rw [hR] at hoK
        simp only [go_sem,tk,intRows,List.map_cons,List.map_nil]
        clear hal a1 a2 a3 hR tk hk
        rw [hoK];clear hoK
        repeat' (refine WG_intro ?_ ?_ <;> intro h <;> (try simp only [go_sem,h]))
        all_goals simp_all
      have n3:x.kind ≠ 3:=by simpa using tk
      simp only [go_sem,tk]
      clear tk
      refine WG_intro (fun tk=>?_) fun tk=>?_
      · have hk:x.kind = 4:=by simpa using tk
        rw [hk] at hoK hal
        obtain ⟨a,rfl⟩:=a1 (by simp [formS] at hal;omega)
        have hR:ofR vs 4 x.n x.name [a] = (a,(a == 1 && x.n == 1) || (a == 2 && x.n == 2)):=by simp [ofR]
        rw [hR] at hoK
        simp only [go_sem,tk,intRows,List.map_cons,List.map_nil]
        clear hal a1 a2 a3 hR tk hk
        rw [hoK];clear hoK
        repeat' (refine WG_intro ?_ ?_ <;> intro h <;> (try simp only [go_sem,h]))
        all_goals simp_all
      have n4:x.kind ≠ 4:=by simpa using tk
      simp only [go_sem,tk]
      clear tk
      refine WG_intro (fun tk=>?_) fun tk=>?_
      · have hk:x.kind = 5:=by simpa using tk
        rw [hk] at hoK hal
        obtain ⟨a,b,rfl⟩:=a2 (by simp [formS] at hal;omega)
        have hR:ofR vs 5 x.n x.name [a,b] = ((twoS x.n a).1,(twoS x.n a).2 && (a == b)):=by simp [ofR]
        rw [hR] at hoK
        have h2c:=fun H=>WCall_of (two_c x.n a H)
        simp only [go_sem,tk,intRows,List.map_cons,List.map_nil,h2c]
        clear h2c
        clear hal a1 a2 a3 hR tk hk
        rw [hoK];clear hoK
        repeat' (refine WG_intro ?_ ?_ <;> intro h <;> (try simp only [go_sem,h]))
        all_goals simp_all
      have n5:x.kind ≠ 5:=by simpa using tk
      simp only [go_sem,tk]
      clear tk
      refine WG_intro (fun tk=>?_) fun tk=>?_
      · have hk:x.kind = 6:=by simpa using tk
        rw [hk] at hoK hal
        obtain ⟨a,b,c,rfl⟩:=a3 (by simp [formS] at hal;omega)
        have hR:ofR vs 6 x.n x.name [a,b,c] = (b,(a == 2) && (b == c)):=by simp [ofR]
        rw [hR] at hoK
        simp only [go_sem,tk,intRows,List.map_cons,List.map_nil]
        clear hal a1 a2 a3 hR tk hk
        rw [hoK];clear hoK
        repeat' (refine WG_intro ?_ ?_ <;> intro h <;> (try simp only [go_sem,h]))
        all_goals simp_all
      have n6:x.kind ≠ 6:=by simpa using tk
      simp only [go_sem,tk]
      clear tk
      refine WG_intro (fun tk=>?_) fun tk=>?_
      · have hk:x.kind = 7:=by simpa using tk
        rw [hk] at hoK hal
        obtain ⟨a,b,rfl⟩:=a2 (by simp [formS] at hal;omega)
        have hR:ofR vs 7 x.n x.name [a,b] = (a,a == b):=by simp [ofR]
        rw [hR] at hoK
        simp only [go_sem,tk,intRows,List.map_cons,List.map_nil]
        clear hal a1 a2 a3 hR tk hk
        rw [hoK];clear hoK
        repeat' (refine WG_intro ?_ ?_ <;> intro h <;> (try simp only [go_sem,h]))
        all_goals simp_all
      have n7:x.kind ≠ 7:=by simpa using tk
      simp only [go_sem,tk]
      clear tk
      refine WG_intro (fun tk=>?_) fun tk=>?_
      · have hk:x.kind = 8:=by simpa using tk
        rw [hk] at hoK hal
        obtain ⟨a,rfl⟩:=a1 (by simp [formS] at hal;omega)
        have hR:ofR vs 8 x.n x.name [a] = (a,(typeOfS vs x.name).1 == 2):=by simp [ofR]
        rw [hR] at hoK
        simp only [go_sem,tk,intRows,List.map_cons,List.map_nil]
        clear hal a1 a2 a3 hR tk hk
        rw [hoK];clear hoK
        repeat' (refine WG_intro ?_ ?_ <;> intro h <;> (try simp only [go_sem,h]))
        all_goals simp_all
      have n8:x.kind ≠ 8:=by simpa using tk
      simp only [go_sem,tk]
      clear tk
      refine WG_intro (fun tk=>?_) fun tk=>?_
      · have hk:x.kind = 9:=by simpa using tk
        rw [hk] at hoK hal
        obtain ⟨a,rfl⟩:=a1 (by simp [formS] at hal;omega)
        have hR:ofR vs 9 x.n x.name [a] = (a,(typeOfS vs x.name).1 == 2):=by simp [ofR]
        rw [hR] at hoK
        simp only [go_sem,tk,intRows,List.map_cons,List.map_nil]
        clear hal a1 a2 a3 hR tk hk
        rw [hoK];clear hoK
        repeat' (refine WG_intro ?_ ?_ <;> intro h <;> (try simp only [go_sem,h]))
        all_goals simp_all
      have n9:x.kind ≠ 9:=by simpa using tk
      simp only [go_sem,tk]
      clear tk
      refine WG_intro (fun tk=>?_) fun tk=>?_
      · have hk:x.kind = 10:=by simpa using tk
        rw [hk] at hoK hal
        obtain ⟨a,b,rfl⟩:=a2 (by simp [formS] at hal;omega)
        have hR:ofR vs 10 x.n x.name [a,b] = (a,((typeOfS vs x.name).1 == 2) && (a == b)):=by simp [ofR]
        rw [hR] at hoK
        simp only [go_sem,tk,intRows,List.map_cons,List.map_nil]
        clear hal a1 a2 a3 hR tk hk
        rw [hoK];clear hoK
        repeat' (refine WG_intro ?_ ?_ <;> intro h <;> (try simp only [go_sem,h]))
        all_goals simp_all
      have n10:x.kind ≠ 10:=by simpa using tk
      simp only [go_sem,tk]
      clear tk
      rw [hoK];simp [ofR,n1,n2,n3,n4,n5,n6,n7,n8,n9,n10]
    · have hn':(x.name != []) = true:=by simpa using hn
      have hn'':(x.name == []) = false:=by simpa using hn
      simp only [go_sem,hn',hn'']
      cases ht2:(typeOfS vs x.name).2 with
      | false=>
        simp only [go_sem]
        rw [h19 (by simp [hn,ht2])]
      | true=>
        have hoK:=hnx (by simp [ht2])
        simp only [go_sem]
        clear ht h1 h1' hpl hlen hfo hf hf0 hx hsz hol hbo hoe h19 hnx hn hn' hn''
        refine WG_intro (fun tk=>?_) fun tk=>?_
        · have hk:x.kind = 1:=by simpa using tk
          rw [hk] at hoK hal
          have hR:ofR vs 1 x.n x.name t = (1,true):=by simp [ofR]
          rw [hR] at hoK
          simp only [go_sem,tk,intRows,List.map_cons,List.map_nil]
          clear hal a1 a2 a3 hR tk hk
          rw [hoK];clear hoK
          repeat' (refine WG_intro ?_ ?_ <;> intro h <;> (try simp only [go_sem,h]))
          all_goals simp_all
        have n1:x.kind ≠ 1:=by simpa using tk
        simp only [go_sem,tk]
        clear tk
        refine WG_intro (fun tk=>?_) fun tk=>?_
        · have hk:x.kind = 2:=by simpa using tk
          rw [hk] at hoK hal
          have hR:ofR vs 2 x.n x.name t = (2,true):=by simp [ofR]
          rw [hR] at hoK
          simp only [go_sem,tk,intRows,List.map_cons,List.map_nil]
          clear hal a1 a2 a3 hR tk hk
          rw [hoK];clear hoK
          repeat' (refine WG_intro ?_ ?_ <;> intro h <;> (try simp only [go_sem,h]))
          all_goals simp_all
        have n2:x.kind ≠ 2:=by simpa using tk
        simp only [go_sem,tk]
        clear tk
        refine WG_intro (fun tk=>?_) fun tk=>?_
        · have hk:x.kind = 3:=by simpa using tk
          rw [hk] at hoK hal
          have hR:ofR vs 3 x.n x.name t = ((typeOfS vs x.name).1,true):=by simp [ofR]
          rw [hR] at hoK
          simp only [go_sem,tk,intRows,List.map_cons,List.map_nil]
          clear hal a1 a2 a3 hR tk hk
          rw [hoK];clear hoK
          repeat' (refine WG_intro ?_ ?_ <;> intro h <;> (try simp only [go_sem,h]))
          all_goals simp_all
        have n3:x.kind ≠ 3:=by simpa using tk
        simp only [go_sem,tk]
        clear tk
        refine WG_intro (fun tk=>?_) fun tk=>?_
        · have hk:x.kind = 4:=by simpa using tk
          rw [hk] at hoK hal
          obtain ⟨a,rfl⟩:=a1 (by simp [formS] at hal;omega)
          have hR:ofR vs 4 x.n x.name [a] = (a,(a == 1 && x.n == 1) || (a == 2 && x.n == 2)):=by simp [ofR]
          rw [hR] at hoK
          simp only [go_sem,tk,intRows,List.map_cons,List.map_nil]
          clear hal a1 a2 a3 hR tk hk
          rw [hoK];clear hoK
          repeat' (refine WG_intro ?_ ?_ <;> intro h <;> (try simp only [go_sem,h]))
          all_goals simp_all
        have n4:x.kind ≠ 4:=by simpa using tk
        simp only [go_sem,tk]
        clear tk
        refine WG_intro (fun tk=>?_) fun tk=>?_
        · have hk:x.kind = 5:=by simpa using tk
          rw [hk] at hoK hal
          obtain ⟨a,b,rfl⟩:=a2 (by simp [formS] at hal;omega)
          have hR:ofR vs 5 x.n x.name [a,b] = ((twoS x.n a).1,(twoS x.n a).2 && (a == b)):=by simp [ofR]
          rw [hR] at hoK
          have h2c:=fun H=>WCall_of (two_c x.n a H)
          simp only [go_sem,tk,intRows,List.map_cons,List.map_nil,h2c]
          clear h2c
          clear hal a1 a2 a3 hR tk hk
          rw [hoK];clear hoK
          repeat' (refine WG_intro ?_ ?_ <;> intro h <;> (try simp only [go_sem,h]))
          all_goals simp_all
        have n5:x.kind ≠ 5:=by simpa using tk
        simp only [go_sem,tk]
        clear tk
        refine WG_intro (fun tk=>?_) fun tk=>?_
        · have hk:x.kind = 6:=by simpa using tk
          rw [hk] at hoK hal
          obtain ⟨a,b,c,rfl⟩:=a3 (by simp [formS] at hal;omega)
          have hR:ofR vs 6 x.n x.name [a,b,c] = (b,(a == 2) && (b == c)):=by simp [ofR]
          rw [hR] at hoK
          simp only [go_sem,tk,intRows,List.map_cons,List.map_nil]
          clear hal a1 a2 a3 hR tk hk
          rw [hoK];clear hoK
          repeat' (refine WG_intro ?_ ?_ <;> intro h <;> (try simp only [go_sem,h]))
          all_goals simp_all
        have n6:x.kind ≠ 6:=by simpa using tk
        simp only [go_sem,tk]
        clear tk
        refine WG_intro (fun tk=>?_) fun tk=>?_
        · have hk:x.kind = 7:=by simpa using tk
          rw [hk] at hoK hal
          obtain ⟨a,b,rfl⟩:=a2 (by simp [formS] at hal;omega)
          have hR:ofR vs 7 x.n x.name [a,b] = (a,a == b):=by simp [ofR]
          rw [hR] at hoK
          simp only [go_sem,tk,intRows,List.map_cons,List.map_nil]
          clear hal a1 a2 a3 hR tk hk
          rw [hoK];clear hoK
          repeat' (refine WG_intro ?_ ?_ <;> intro h <;> (try simp only [go_sem,h]))
          all_goals simp_all
        have n7:x.kind ≠ 7:=by simpa using tk
        simp only [go_sem,tk]
        clear tk
        refine WG_intro (fun tk=>?_) fun tk=>?_
        · have hk:x.kind = 8:=by simpa using tk
          rw [hk] at hoK hal
          obtain ⟨a,rfl⟩:=a1 (by simp [formS] at hal;omega)
          have hR:ofR vs 8 x.n x.name [a] = (a,(typeOfS vs x.name).1 == 2):=by simp [ofR]
          rw [hR] at hoK
          simp only [go_sem,tk,intRows,List.map_cons,List.map_nil]
          clear hal a1 a2 a3 hR tk hk
          rw [hoK];clear hoK
          repeat' (refine WG_intro ?_ ?_ <;> intro h <;> (try simp only [go_sem,h]))
          all_goals simp_all
        have n8:x.kind ≠ 8:=by simpa using tk
        simp only [go_sem,tk]
        clear tk
        refine WG_intro (fun tk=>?_) fun tk=>?_
        · have hk:x.kind = 9:=by simpa using tk
          rw [hk] at hoK hal
          obtain ⟨a,rfl⟩:=a1 (by simp [formS] at hal;omega)
          have hR:ofR vs 9 x.n x.name [a] = (a,(typeOfS vs x.name).1 == 2):=by simp [ofR]
          rw [hR] at hoK
          simp only [go_sem,tk,intRows,List.map_cons,List.map_nil]
          clear hal a1 a2 a3 hR tk hk
          rw [hoK];clear hoK
          repeat' (refine WG_intro ?_ ?_ <;> intro h <;> (try simp only [go_sem,h]))
          all_goals simp_all
        have n9:x.kind ≠ 9:=by simpa using tk
        simp only [go_sem,tk]
        clear tk
        refine WG_intro (fun tk=>?_) fun tk=>?_
        · have hk:x.kind = 10:=by simpa using tk
          rw [hk] at hoK hal
          obtain ⟨a,b,rfl⟩:=a2 (by simp [formS] at hal;omega)
          have hR:ofR vs 10 x.n x.name [a,b] = (a,((typeOfS vs x.name).1 == 2) && (a == b)):=by simp [ofR]
          rw [hR] at hoK
          simp only [go_sem,tk,intRows,List.map_cons,List.map_nil]
          clear hal a1 a2 a3 hR tk hk
          rw [hoK];clear hoK
          repeat' (refine WG_intro ?_ ?_ <;> intro h <;> (try simp only [go_sem,h]))
          all_goals simp_all
        have n10:x.kind ≠ 10:=by simpa using tk
        simp only [go_sem,tk]
        clear tk
        rw [hoK];simp [ofR,n1,n2,n3,n4,n5,n6,n7,n8,n9,n10]
end Am
namespace Am
open Go C
def upF {α:Type} (f:Nat→Option α):Nat→Nat→Option α
  | _,0=>none
  | i,m + 1=>match f i with
    | some r=>some r
    | none=>upF f (i + 1) m
theorem upF_some {α:Type} {f:Nat→Option α} {i m:Nat} {r:α} (h:f i = some r):upF f i (m + 1) = some r:=by simp [upF,h]
theorem upF_none {α:Type} {f:Nat→Option α} {i m:Nat} (h:f i = none):upF f i (m + 1) = upF f (i + 1) m:=by simp [upF,h]
abbrev Fault:=Int × Int × Int
def faultV (f:Fault):HV:=.agg [.d (.int .i64 f.1),.d (.int .i64 f.2.1),.d (.int .i64 f.2.2)]
def dn (eqs:List Eqn) (i:Nat) (s:Str):Nat:=(eqs.take i).countP fun q=>decide (q.name = s)
def tyAt (vs:List Var) (i:Nat):Int:=((vs[i]?).getD var0).ty
def equationS (vs:List Var) (ins:Nat) (c:Nat) (q:Eqn):Int:=match ixOf vs q.name with
  | none=>19
  | some k=>if k < ins then 19 else if 0 < c then 18
    else if (ofE vs q.e).2 ≠ 0 then (ofE vs q.e).2
    else if q.delay = 1 ∧ (ofE vs q.first).1 ≠ tyAt vs k then 20
    else if (ofE vs q.e).1 ≠ tyAt vs k then 20 else 0
theorem equation_c (vs:List Var) (q:Eqn) (hq1:q.e.fit = true) (hq2:q.e.formed = true) (hq3:q.delay = 1→q.first.fit = true ∧ q.first.formed = true) (ins:Nat)
    (B:List Obj) (T:List Nat) (lw:Option Nat) (o o2:Nat) (ho:LookB vs o B) (es:Ents Str) (st:List Nat × Nat) (ho2:B[o2]? = some (mapO kS false es st)) (c:Nat) (hc:(getM es q.name).getD [.int .i64 0] = [.int .i64 (c:Int)]) :
    CallsA prg 260 [lookV vs o,.agg (dcells (encEq q)),.d (.int .i64 (ins:Int)),.map o2] ⟨B,T,lw⟩ (.d (.int .i64 (equationS vs ins c q))) ⟨B,T,lw⟩:=by
  refine calls_of2 rfl f260 ?_
  have hol:=lt_of_some ho
  have hol2:=lt_of_some ho2
  have h1:∀ X:List Obj,(B ++ X)[o]? = some (mapO kS false (lookE vs) (lookT vs)):=fun X=>by rw [List.getElem?_append_left hol];exact ho
  have h2:∀ X:List Obj,(B ++ X)[o2]? = some (mapO kS false es st):=fun X=>by rw [List.getElem?_append_left hol2];exact ho2
  have hbo:decide (o < B.length) = true:=by simpa using hol
  have ht:=fun (X:List Obj) (T:List Nat) (lw:Option Nat)=>WCall_of (of_c vs _ q.e (Nat.le_refl _) hq1 hq2 o (B ++ X) T lw (ho.app X)).2
  unfold exV lookV at ht
  simp only [go_sem] at ht
  unfold encEq lookV
  simp only [dcells_cons,dcells_nil]
  simp only [go_sem,c260,h1,lookE_get]
  cases hi:ixOf vs q.name with
  | none=>
    simp only [go_sem,hi,Option.getD_none,Option.isSome_none]
    simp [equationS,hi]
  | some k=>
    have hlt:=ixOf_lt hi
    obtain ⟨v,hv⟩:=at_of_lt hlt
    have e2:(vs.map encVar)[k]? = some (encVar v):=by simp [hv]
    have hty:tyAt vs k = v.ty:=by simp [tyAt,hv]
    simp only [go_sem,hi,Option.getD_some,Option.isSome_some]
    refine WG_intro (fun t1=>?_) fun t1=>?_
    · have:k < ins:=by simp at t1;omega
      simp only [go_sem,t1]
      simp [equationS,hi,this]
    have n1:¬ k < ins:=by simp at t1;omega
    simp only [go_sem,t1,h2,hc]
    refine WG_intro (fun t2=>?_) fun t2=>?_
    · have:0 < c:=by simp at t2;omega
      simp only [go_sem,t2]
      simp [equationS,hi,n1,this]
    have n2:¬ 0 < c:=by simp at t2;omega
    simp only [go_sem,t2,ht,hbo]
    refine WG_intro (fun t3=>?_) fun t3=>?_
    · have:(ofE vs q.e).2 ≠ 0:=by simpa using t3
      simp only [go_sem,t3]
      simp [equationS,hi,n1,n2,this]
    have n3:(ofE vs q.e).2 = 0:=by simpa using t3
    simp only [go_sem,t3]
    refine WG_intro (fun t4=>?_) fun t4=>?_
    · have hd:q.delay = 1:=by simpa using t4
      have hf:=hq3 hd
      have ht1:=fun (X:List Obj) (T:List Nat) (lw:Option Nat)=>WCall_of (of_c vs _ q.first (Nat.le_refl _) hf.1 hf.2 o (B ++ X) T lw (ho.app X)).2
      unfold exV lookV at ht1
      simp only [go_sem] at ht1
      simp only [go_sem,t4,ht1,e2,encVar,hbo]
      refine WG_intro (fun t5=>?_) fun t5=>?_
      · have:¬ (ofE vs q.first).1 = v.ty:=by simpa using t5
        simp only [go_sem,t5]
        simp [equationS,hi,n1,n2,n3,hd,hty,this]
      have n5:(ofE vs q.first).1 = v.ty:=by simpa using t5
      simp only [go_sem,t5,e2,encVar]
      refine WG_intro (fun t6=>?_) fun t6=>?_
      · simp only [go_sem,t6]
        have:¬ (ofE vs q.e).1 = v.ty:=by simpa using t6
        simp [equationS,hi,n1,n2,n3,hd,hty,n5,this]
      · simp only [go_sem,t6]
        have:(ofE vs q.e).1 = v.ty:=by simpa using t6
        simp [equationS,hi,n1,n2,n3,hd,hty,n5,this]
    · have hd:q.delay ≠ 1:=by simpa using t4
      simp only [go_sem,t4,e2,encVar]
      refine WG_intro (fun t6=>?_) fun t6=>?_
      · simp only [go_sem,t6]
        have:¬ (ofE vs q.e).1 = v.ty:=by simpa using t6
        simp [equationS,hi,n1,n2,n3,hd,hty,this]
      · simp only [go_sem,t6]
        have:(ofE vs q.e).1 = v.ty:=by simpa using t6
        simp [equationS,hi,n1,n2,n3,hd,hty,this]
def twiceA (vs:List Var) (i:Nat):Option Fault:=if ixOf vs ((vs[i]?).getD var0).name = some i then none else some (2,(i:Int),18)
def eqA (vs:List Var) (ins:Nat) (eqs:List Eqn) (i:Nat):Option Fault:=
  let q:=(eqs[i]?).getD ⟨[],0,ex0,ex0⟩
  let e:=equationS vs ins (dn eqs i q.name) q
  if e = 0 then none else some (3,(i:Int),e)
def noneA (vs:List Var) (eqs:List Eqn) (i:Nat):Option Fault:=if dn eqs eqs.length ((vs[i]?).getD var0).name = 0 then some (2,(i:Int),8) else none
def kindsS (p:Prog):Fault:=
  let vs:=varsS p
  if (printS p).2 ≠ 0 then (4,0,(printS p).2)
  else if 8 < p.ins.length ∨ 8 < p.outs.length ∨ 24 < vs.length then (4,0,3)
  else match upF (twiceA vs) 0 vs.length with
    | some f=>f
    | none=>match upF (eqA vs p.ins.length p.eqs) 0 p.eqs.length with
      | some f=>f
      | none=>match upF (noneA vs p.eqs) p.ins.length (vs.length - p.ins.length) with
        | some f=>f
        | none=>(0,0,0)
theorem dn_succ {eqs:List Eqn} {i:Nat} {q:Eqn} (h:eqs[i]? = some q) (s:Str):dn eqs (i + 1) s = dn eqs i s + if q.name = s then 1 else 0:=by
  unfold dn
  rw [List.take_add_one,h]
  simp only [Option.toList_some,List.countP_append,List.countP_cons,List.countP_nil]
  by_cases h2:q.name = s <;> simp [h2]
theorem dn_le (eqs:List Eqn) (i:Nat) (s:Str):dn eqs i s ≤ eqs.length:=by
  unfold dn
  refine Nat.le_trans List.countP_le_length ?_
  simp;omega
theorem ixOf_has {vs:List Var} {i:Nat} {v:Var} (h:vs[i]? = some v):∃ j,ixOf vs v.name = some j:=by
  cases hx:ixOf vs v.name with
  | some j=>exact ⟨j,rfl⟩
  | none=>
    unfold ixOf at hx
    rw [List.findIdx?_eq_none_iff] at hx
    have:=hx v (List.mem_of_getElem? h)
    simp at this
theorem print_whole {p:Prog} (h:(printS p).2 = 0):wholeS p = true:=by
  unfold printS at h
  split at h
  · assumption
  · simp at h
theorem whole_eq {p:Prog} (h:wholeS p = true) {q:Eqn} (hq:q ∈ p.eqs):q.e.formed = true ∧ (q.delay = 1→q.first.formed = true):=by
  unfold wholeS at h
  simp only [Bool.and_eq_true,List.all_eq_true] at h
  have:=h.2.2.2.2 q hq
  unfold eqOkS at this
  simp only [Bool.and_eq_true,decide_eq_true_eq] at this
  refine ⟨right_formed this.2.1,fun hd=>?_⟩
  have h3:=this.2.2
  rw [if_pos hd] at h3
  unfold literalS at h3
  simp only [Bool.and_eq_true,decide_eq_true_eq] at h3
  exact right_formed h3.1
def kObjs (p:Prog) (n:Nat):List Obj:=[cellsP p,.cells [.d (.int .i64 0),.d (.int .i64 0),.d (.int .i64 0)],mapO kS false (lookE (varsS p)) (lookT (varsS p)),.cells [.d (.sl ((varsS p).map encVar)),.map (n + 2)]]
def K1I (p:Prog) (B:List Obj) (T:List Nat) (k:Nat) (e:Env) (H:St):Prop:=
  ∃ i,i ≤ (varsS p).length ∧ k = (varsS p).length - i ∧ upF (twiceA (varsS p)) 0 (varsS p).length = upF (twiceA (varsS p)) i ((varsS p).length - i) ∧
    e = [(1,.ref B.length 0),(2,.ref (B.length + 1) 0),(5,.d (.sl ((varsS p).map encVar))),(6,.ref (B.length + 3) 0),(45,.d (.sl ((varsS p).map encVar))),(46,.d (.int .i64 (varsS p).length)),(47,.d (.int .i64 i))] ∧
    H = ⟨B ++ kObjs p B.length,T,some (B.length + 3)⟩
def doneOk (eqs:List Eqn) (i:Nat) (es:Ents Str):Prop:=∀ s,(getM es s).getD [.int .i64 0] = [.int .i64 (dn eqs i s:Int)]
def K2I (p:Prog) (B:List Obj) (T:List Nat) (k:Nat) (e:Env) (H:St):Prop:=
  ∃ i es st,doneOk p.eqs i es ∧ i ≤ p.eqs.length ∧ k = p.eqs.length - i ∧ upF (eqA (varsS p) p.ins.length p.eqs) 0 p.eqs.length = upF (eqA (varsS p) p.ins.length p.eqs) i (p.eqs.length - i) ∧
    e = [(1,.ref B.length 0),(2,.ref (B.length + 1) 0),(5,.d (.sl ((varsS p).map encVar))),(6,.ref (B.length + 3) 0),(9,.map (B.length + 4)),(64,.d (.sl (p.eqs.map encEq))),(65,.d (.int .i64 p.eqs.length)),(66,.d (.int .i64 i))] ∧
    H = ⟨B ++ (kObjs p B.length ++ [mapO kS false es st]),T,some (B.length + 3)⟩
def K3I (p:Prog) (es:Ents Str) (st:List Nat × Nat) (B:List Obj) (T:List Nat) (k:Nat) (e:Env) (H:St):Prop:=
  ∃ i,p.ins.length ≤ i ∧ i ≤ (varsS p).length ∧ k = (varsS p).length - i ∧ upF (noneA (varsS p) p.eqs) p.ins.length ((varsS p).length - p.ins.length) = upF (noneA (varsS p) p.eqs) i ((varsS p).length - i) ∧
    e = [(2,.ref (B.length + 1) 0),(5,.d (.sl ((varsS p).map encVar))),(9,.map (B.length + 4)),(13,.d (.int .i64 i))] ∧
    H = ⟨B ++ (kObjs p B.length ++ [mapO kS false es st]),T,some (B.length + 3)⟩
theorem kinds_c (p:Prog) (hp:p.fit) (H:St):CallsA prg 242 [progV p] H (faultV (kindsS p)) H:=by
  have hpc:=fun H=>WCall_of (print_c p hp H)
  have hvc:=fun H=>WCall_of (vars_c p hp H)
  have hp0:=hp
  obtain ⟨hp1,hp2,hp3,hp4,hp5,hp6⟩:=hp
  have hl1:=hp2.1
  have hl2:=hp3.1
  have hl3:=hp4.1
  unfold progV encProg at hpc hvc ⊢
  simp only [dcells_cons,dcells_nil] at hpc hvc ⊢
  have hvl:(varsS p).length = p.ins.length + p.outs.length + p.locals.length:=by simp [varsS];omega
  have hK:kindsS p = kindsS p:=rfl
  conv at hK=>rhs;unfold kindsS
  dsimp only at hK
  refine calls_of2 rfl f242 ?_
  obtain ⟨B,T,lw⟩:=H
  simp only [go_sem,c242,hpc]
  refine WG_intro (fun t1=>?_) fun t1=>?_
  · have:(printS p).2 ≠ 0:=by simpa using t1
    simp only [go_sem,t1]
    rw [hK,if_pos this];rfl
  have n1:(printS p).2 = 0:=by simpa using t1
  rw [if_neg (by simp [n1])] at hK
  simp only [go_sem,t1,hvc,List.length_map]
  have hbig:(8 < p.ins.length ∨ 8 < p.outs.length ∨ 24 < (varsS p).length)→kindsS p = (4,0,3):=fun h=>by rw [hK,if_pos h]
  refine WG_intro (fun t2=>?_) fun t2=>?_
  · have:8 < p.ins.length:=by simp at t2;omega
    simp only [go_sem,t2]
    rw [hbig (.inl this)];rfl
  have n2:¬ 8 < p.ins.length:=by simp at t2;omega
  simp only [go_sem,t2,List.length_map]
  refine WG_intro (fun t3=>?_) fun t3=>?_
  · have:8 < p.outs.length:=by simp at t3;omega
    simp only [go_sem,t3]
    rw [hbig (.inr (.inl this))];rfl
  have n3:¬ 8 < p.outs.length:=by simp at t3;omega
  simp only [go_sem,t3,List.length_map]
  refine WG_intro (fun t4=>?_) fun t4=>?_
  · have:24 < (varsS p).length:=by simp at t4;omega
    simp only [go_sem,t4]
    rw [hbig (.inr (.inr this))];rfl
  have n4:¬ 24 < (varsS p).length:=by simp at t4;omega
  rw [if_neg (by omega)] at hK
  clear hbig
  have hnm:=fun B T lw=>WCall_of (names_c (varsS p) (by omega) B T lw)
  simp only [go_sem,t4,List.length_map,hnm]
  clear hnm hpc hvc
  refine loop_I (K1I p B T) (varsS p).length ⟨0,Nat.zero_le _,rfl,rfl,rfl,rfl⟩ ?_
  rintro k e H ⟨i,hi,rfl,hv,rfl,rfl⟩
  simp only [go_sem,c242l0,kObjs]
  refine WG_intro (fun h=>?_) fun h=>?_
  · have hlt:i < (varsS p).length:=by simpa using h
    obtain ⟨v,hv0⟩:=at_of_lt hlt
    obtain ⟨j,hj⟩:=ixOf_has hv0
    have e2:((varsS p).map encVar)[i]? = some (encVar v):=by simp [hv0]
    rw [show (varsS p).length - i = ((varsS p).length - (i + 1)) + 1 by omega] at hv
    simp only [go_sem,h,e2,encVar,lookE_get,hj,Option.getD_some]
    refine WG_intro (fun h2=>?_) fun h2=>?_
    · have hne:j ≠ i:=by simp at h2;omega
      rw [upF_some (r:=(2,(i:Int),18)) (by simp [twiceA,hv0,hj,hne])] at hv
      rw [hv] at hK
      simp only [go_sem,h2]
      rw [hK];rfl
    · have heq:j = i:=by simp at h2;omega
      rw [upF_none (by simp [twiceA,hv0,hj,heq])] at hv
      simp only [go_sem,h2]
      rw [wrap64 (by omega) (by omega)]
      exact ⟨_,by omega,i + 1,by omega,rfl,hv,rfl,rfl⟩
  have hlt:(varsS p).length - i = 0:=by simp at h;omega
  rw [hlt] at hv
  rw [show upF (twiceA (varsS p)) 0 (varsS p).length = none from hv] at hK
  dsimp only at hK
  simp only [go_sem,h,List.length_map,bnd,intOf]
  clear hv h hlt hi i
  have hwh:=print_whole n1
  refine loop_I (K2I p B T) p.eqs.length ⟨0,[],([],0),fun s=>by simp [getM,dn],Nat.zero_le _,rfl,rfl,rfl,rfl⟩ ?_
  rintro k e H ⟨i,es,st,hdo,hi,rfl,hv,rfl,rfl⟩
  simp only [go_sem,c242l1,kObjs]
  refine WG_intro (fun h=>?_) fun h=>?_
  · have hlt:i < p.eqs.length:=by simpa using h
    obtain ⟨q,hq0⟩:=at_of_lt hlt
    have hmem:=List.mem_of_getElem? hq0
    obtain ⟨hq1,hq2,hq3⟩:=hp6 q hmem
    have hqf:=whole_eq hwh hmem
    have e2:(p.eqs.map encEq)[i]? = some (encEq q):=by simp [hq0]
    have hec:=fun (Y:List Obj) T lw=>WCall_of (equation_c (varsS p) q hq2 hqf.1 (fun hd=>⟨hq3,hqf.2 hd⟩) p.ins.length (B ++ (kObjs p B.length ++ mapO kS false es st :: Y)) T lw (B.length + 2) (B.length + 4)
      (by unfold LookB kObjs;rw [List.getElem?_append_right (by omega),show B.length + 2 - B.length = 2 by omega];rfl) es st
      (by unfold kObjs;rw [List.getElem?_append_right (by omega),show B.length + 4 - B.length = 4 by omega];rfl) (dn p.eqs i q.name) (hdo _))
    unfold encEq lookV at hec
    simp only [dcells_cons,dcells_nil,kObjs,cellsP_eq,List.cons_append,List.nil_append] at hec
    have hdq:=hdo q.name
    have hdl:=dn_le p.eqs i q.name
    rw [show p.eqs.length - i = (p.eqs.length - (i + 1)) + 1 by omega] at hv
    simp only [go_sem,h,e2,encEq,List.length_map,hec]
    refine WG_intro (fun h2=>?_) fun h2=>?_
    · have hne:equationS (varsS p) p.ins.length (dn p.eqs i q.name) q ≠ 0:=by simpa using h2
      rw [upF_some (r:=(3,(i:Int),equationS (varsS p) p.ins.length (dn p.eqs i q.name) q)) (by simp [eqA,hq0,hne])] at hv
      rw [hv] at hK
      simp only [go_sem,h2]
      rw [hK];rfl
    · have heq:equationS (varsS p) p.ins.length (dn p.eqs i q.name) q = 0:=by simpa using h2
      rw [upF_none (by simp [eqA,hq0,heq])] at hv
      have hw1:IntKind.i64.wrap ((dn p.eqs i q.name:Int) + 1) = ((dn p.eqs (i + 1) q.name:Nat):Int):=by
        rw [wrap64 (by omega) (by omega),dn_succ hq0,if_pos rfl];omega
      simp only [go_sem,h2,hdq,hw1]
      rw [wrap64 (by omega) (by omega)]
      refine ⟨_,by omega,i + 1,putM es q.name [.int .i64 (dn p.eqs (i + 1) q.name:Int)],putT es q.name st,?_,by omega,rfl,hv,rfl,rfl⟩
      intro s
      rw [getM_put]
      by_cases hs:s = q.name
      · simp [hs]
      · rw [if_neg hs,hdo s,dn_succ hq0,if_neg (fun h=>hs h.symm)];simp
  have hlt:p.eqs.length - i = 0:=by simp at h;omega
  have hie:i = p.eqs.length:=by omega
  rw [hlt] at hv
  rw [show upF (eqA (varsS p) p.ins.length p.eqs) 0 p.eqs.length = none from hv] at hK
  dsimp only at hK
  subst hie
  simp only [go_sem,h,List.length_map]
  clear hv h hlt hi
  refine loop_I (K3I p es st B T) ((varsS p).length - p.ins.length) ⟨p.ins.length,Nat.le_refl _,by omega,rfl,rfl,rfl,rfl⟩ ?_
  rintro k e H ⟨i,hi1,hi,rfl,hv,rfl,rfl⟩
  simp only [go_sem,c242l2,kObjs,List.length_map]
  refine WG_intro (fun h=>?_) fun h=>?_
  · have hlt:i < (varsS p).length:=by simpa using h
    obtain ⟨v,hv0⟩:=at_of_lt hlt
    have e2:((varsS p).map encVar)[i]? = some (encVar v):=by simp [hv0]
    have hdv:=hdo v.name
    rw [show (varsS p).length - i = ((varsS p).length - (i + 1)) + 1 by omega] at hv
    simp only [go_sem,h,e2,encVar,hdv]
    refine WG_intro (fun h2=>?_) fun h2=>?_
    · have hz:dn p.eqs p.eqs.length v.name = 0:=by simp at h2;omega
      rw [upF_some (r:=(2,(i:Int),8)) (by simp [noneA,hv0,hz])] at hv
      rw [hv] at hK
      simp only [go_sem,h2]
      rw [hK];rfl
    · have hz:dn p.eqs p.eqs.length v.name ≠ 0:=by simp at h2;omega
      rw [upF_none (by simp [noneA,hv0,hz])] at hv
      simp only [go_sem,h2]
      rw [wrap64 (by omega) (by omega)]
      exact ⟨_,by omega,i + 1,by omega,by omega,rfl,hv,rfl,rfl⟩
  have hlt:(varsS p).length - i = 0:=by simp at h;omega
  rw [hlt] at hv
  rw [show upF (noneA (varsS p) p.eqs) p.ins.length ((varsS p).length - p.ins.length) = none from hv] at hK
  dsimp only at hK
  simp only [go_sem,h]
  rw [hK];rfl
end Am
