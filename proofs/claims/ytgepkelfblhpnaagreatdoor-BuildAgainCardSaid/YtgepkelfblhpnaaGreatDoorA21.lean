/- A part of the proof of BuildAgain: no condition of its own. Whence: AmLex1, AmLex2, AmLex3, AmLex4. -/
import Derived.Test.YtgepkelfblhpnaaGreatDoorA20
set_option linter.all false
namespace Am
open Go C
abbrev Str:=List UInt8
theorem drop_at {α:Type} {l:List α} {i:Nat} {x:α} (h:l[i]? = some x):l.drop i = x :: l.drop (i + 1):=by
  have hlt:i < l.length:=(List.getElem?_eq_some_iff.1 h).1
  rw [List.drop_eq_getElem_cons hlt]
  congr 1
  exact Option.some.inj ((List.getElem?_eq_getElem hlt).symm.trans h)
theorem at_of_lt {α:Type} {l:List α} {i:Nat} (h:i < l.length):∃ x,l[i]? = some x:=⟨_,List.getElem?_eq_getElem h⟩
theorem lt_of_at {α:Type} {l:List α} {i:Nat} {x:α} (h:l[i]? = some x):i < l.length:=(List.getElem?_eq_some_iff.1 h).1
theorem beq_int {a b:Int}:(a == b) = decide (a = b):=by by_cases h:a = b <;> simp [h]
def letterI (c:Int):Bool:=decide (97 ≤ c) && decide (c ≤ 122)
def digitI (c:Int):Bool:=decide (48 ≤ c) && decide (c ≤ 57)
def blankI (c:Int):Bool:=c == 32 || (c == 9 || (c == 10 || c == 13))
def otherI (c:Int):Bool:=c != 10
def innerI (c:Int):Bool:=letterI c || (digitI c || c == 95)
theorem letter_c (c:Int) (H:St):CallsA prg 133 [.d (.int .i32 c)] H (.d (.bool (letterI c))) H:=by
  refine calls_of2 rfl f133 ?_
  obtain ⟨B,T,lw⟩:=H
  simp only [go_sem,c133]
  repeat' (refine WG_intro ?_ ?_ <;> intro h <;> (try simp only [go_sem,h]))
  all_goals first | (simp_all [letterI];done) | (simp_all [letterI];omega)
theorem digit_c (c:Int) (H:St):CallsA prg 136 [.d (.int .i32 c)] H (.d (.bool (digitI c))) H:=by
  refine calls_of2 rfl f136 ?_
  obtain ⟨B,T,lw⟩:=H
  simp only [go_sem,c136]
  repeat' (refine WG_intro ?_ ?_ <;> intro h <;> (try simp only [go_sem,h]))
  all_goals first | (simp_all [digitI];done) | (simp_all [digitI];omega)
theorem blank_c (c:Int) (H:St):CallsA prg 131 [.d (.int .i32 c)] H (.d (.bool (blankI c))) H:=by
  refine calls_of2 rfl f131 ?_
  obtain ⟨B,T,lw⟩:=H
  simp only [go_sem,c131]
  repeat' (refine WG_intro ?_ ?_ <;> intro h <;> (try simp only [go_sem,h]))
  all_goals first | (simp_all [blankI];done) | grind [blankI]
theorem other_c (c:Int) (H:St):CallsA prg 132 [.d (.int .i32 c)] H (.d (.bool (otherI c))) H:=by
  refine calls_of2 rfl f132 ?_
  obtain ⟨B,T,lw⟩:=H
  simp only [go_sem,c132]
  all_goals first | (simp_all [otherI];done) | (simp_all [otherI];omega)
theorem inner_c (c:Int) (H:St):CallsA prg 134 [.d (.int .i32 c)] H (.d (.bool (innerI c))) H:=by
  refine calls_of2 rfl f134 ?_
  obtain ⟨B,T,lw⟩:=H
  simp only [go_sem,c134,WCall_of (letter_c c _),WCall_of (digit_c c _)]
  repeat' (refine WG_intro ?_ ?_ <;> intro h <;> (try simp only [go_sem,h,WCall_of (letter_c c _),WCall_of (digit_c c _)]))
  all_goals first | (simp_all [innerI];done) | (simp_all [innerI];omega)
theorem get_mk (s:Str) (i:Nat) (h:i < s.length):ByteArray.get! ⟨s.toArray⟩ i = s[i]:=by
  simp [ByteArray.get!,h]
theorem decode_lo {s:Str} {i:Nat} {b:UInt8} (h:s[i]? = some b) (hb:b.toNat < 128):Utf8.decode ⟨s.toArray⟩ i = (b.toNat,1):=by
  have hlt:=lt_of_at h
  have e:ByteArray.get! ⟨s.toArray⟩ (i + 0) = b:=by
    rw [Nat.add_zero,get_mk s i hlt]
    exact Option.some.inj ((List.getElem?_eq_getElem hlt).symm.trans h)
  unfold Utf8.decode
  simp only [e]
  rw [if_pos hb]
theorem decode_hi {s:Str} {i:Nat} {b:UInt8} (h:s[i]? = some b) (hb:128 ≤ b.toNat) :
    128 ≤ (Utf8.decode ⟨s.toArray⟩ i).1 ∧ 1 ≤ (Utf8.decode ⟨s.toArray⟩ i).2 ∧ i + (Utf8.decode ⟨s.toArray⟩ i).2 ≤ s.length ∧
      ∀ k,i ≤ k→k < i + (Utf8.decode ⟨s.toArray⟩ i).2→∃ c,s[k]? = some c ∧ 128 ≤ c.toNat:=by
  have hlt:=lt_of_at h
  have e:ByteArray.get! ⟨s.toArray⟩ (i + 0) = b:=by
    rw [Nat.add_zero,get_mk s i hlt]
    exact Option.some.inj ((List.getElem?_eq_getElem hlt).symm.trans h)
  have sz:ByteArray.size ⟨s.toArray⟩ = s.length:=by simp [ByteArray.size]
  have one:∀ r:Nat,128 ≤ r→128 ≤ ((r,1):Nat × Nat).1 ∧ 1 ≤ ((r,1):Nat × Nat).2 ∧ i + ((r,1):Nat × Nat).2 ≤ s.length ∧ ∀ k,i ≤ k→k < i + ((r,1):Nat × Nat).2→∃ c,s[k]? = some c ∧ 128 ≤ c.toNat:=by
    intro r hr
    refine ⟨hr,Nat.le_refl _,hlt,fun k h1 h2=>?_⟩
    have:k = i:=by simp at h2;omega
    subst this
    exact ⟨b,h,hb⟩
  have cont:∀ k,(decide (i + k < ByteArray.size ⟨s.toArray⟩) && (ByteArray.get! ⟨s.toArray⟩ (i + k)).toNat / 64 == 2) = true→i + k < s.length ∧ ∃ c,s[i + k]? = some c ∧ 128 ≤ c.toNat:=by
    intro k hk
    simp only [Bool.and_eq_true,decide_eq_true_eq,beq_iff_eq,sz] at hk
    obtain ⟨h1,h2⟩:=hk
    rw [get_mk s _ h1] at h2
    exact ⟨h1,_,List.getElem?_eq_getElem h1,by omega⟩
  have err:128 ≤ Utf8.runeError:=by decide
  unfold Utf8.decode
  simp only [e]
  rw [if_neg (by omega)]
  split
  · rename_i h1
    simp only [Bool.and_eq_true] at h1
    have c1:=cont 1 (by simpa using h1.2)
    split
    · rename_i hc
      refine ⟨hc,by simp,c1.1,fun k h2 h3=>?_⟩
      simp only at h3
      rcases (by omega:k = i ∨ k = i + 1) with rfl | rfl
      · exact ⟨b,h,hb⟩
      · exact c1.2
    · exact one _ err
  · split
    · rename_i h1
      simp only [Bool.and_eq_true] at h1
      have c1:=cont 1 (by simpa using h1.1.2)
      have c2:=cont 2 (by simpa using h1.2)
      split
      · rename_i hc
        simp only [Bool.and_eq_true,decide_eq_true_eq] at hc
        refine ⟨by simp only;omega,by simp,c2.1,fun k h2 h3=>?_⟩
        simp only at h3
        rcases (by omega:k = i ∨ k = i + 1 ∨ k = i + 2) with rfl | rfl | rfl
        · exact ⟨b,h,hb⟩
        · exact c1.2
        · exact c2.2
      · exact one _ err
    · split
      · rename_i h1
        simp only [Bool.and_eq_true] at h1
        have c1:=cont 1 (by simpa using h1.1.1.2)
        have c2:=cont 2 (by simpa using h1.1.2)
        have c3:=cont 3 (by simpa using h1.2)
        split
        · rename_i hc
          simp only [Bool.and_eq_true,decide_eq_true_eq] at hc
          refine ⟨by simp only;omega,by simp,c3.1,fun k h2 h3=>?_⟩
          simp only at h3
          rcases (by omega:k = i ∨ k = i + 1 ∨ k = i + 2 ∨ k = i + 3) with rfl | rfl | rfl | rfl
          · exact ⟨b,h,hb⟩
          · exact c1.2
          · exact c2.2
          · exact c3.2
        · exact one _ err
      · exact one _ err
structure Kind (P:Int→Bool) (q:Bool):Prop where
  hi:∀ r:Int,128 ≤ r→P r = q
def onB (P:Int→Bool) (b:UInt8):Bool:=P b.toNat
def headS (P:Int→Bool) (s:Str):Str:=s.takeWhile (onB P)
theorem take_while_at {α:Type} {p:α→Bool}:∀ {l:List α} {i:Nat},(∀ k,k < i→∃ c,l[k]? = some c ∧ p c = true)→(∀ c,l[i]? = some c→p c = false)→l.takeWhile p = l.take i
  | [],i,h,h'=>by simp
  | x :: l,0,h,h'=>by
    have:=h' x rfl
    simp [List.takeWhile_cons,this]
  | x :: l,i + 1,h,h'=>by
    obtain ⟨c,h1,h2⟩:=h 0 (by omega)
    simp only [List.getElem?_cons_zero,Option.some.injEq] at h1
    subst h1
    rw [List.takeWhile_cons,if_pos h2,List.take_succ_cons,take_while_at (i:=i) (fun k hk=>by simpa using h (k + 1) (by omega)) (fun c hc=>h' c (by simpa using hc))]
def HeadI (f:Nat) (P:Int→Bool) (s:Str) (B:List Obj) (T:List Nat) (m:Nat) (e:Env) (H:St):Prop:=
  ∃ i:Nat,i ≤ s.length ∧ m = s.length - i ∧ (∀ k,k < i→∃ c,s[k]? = some c ∧ onB P c = true) ∧
    e = [(0,.d (.str s)),(1,.fn f [] []),(8,.ref B.length 0)] ∧ H = ⟨B ++ [.iter s i],T,none⟩
theorem head_c {f:Nat} {P:Int→Bool} {q:Bool} (hP:Kind P q) (hc:∀ c H,CallsA prg f [.d (.int .i32 c)] H (.d (.bool (P c))) H) (s:Str) (hs:s.length ≤ 1000000) (H:St) :
    CallsA prg 130 [.d (.str s),.fn f [] []] H (.d (.str (headS P s))) H:=by
  refine calls_of2 rfl f130 ?_
  obtain ⟨B,T,lw⟩:=H
  simp only [go_sem,c130]
  refine loop_I (HeadI f P s B T) s.length ⟨0,Nat.zero_le _,rfl,fun k hk=>absurd hk (Nat.not_lt_zero _),rfl,rfl⟩ ?_
  rintro m e H ⟨i,hi,rfl,hall,rfl,rfl⟩
  simp only [go_sem,c130l0]
  by_cases hlt:i < s.length
  · obtain ⟨b,hb⟩:=at_of_lt hlt
    have key:P ((Utf8.decode ⟨s.toArray⟩ i).1:Int) = onB P b ∧ 1 ≤ (Utf8.decode ⟨s.toArray⟩ i).2 ∧ i + (Utf8.decode ⟨s.toArray⟩ i).2 ≤ s.length ∧ ∀ k,i ≤ k→k < i + (Utf8.decode ⟨s.toArray⟩ i).2→∃ c,s[k]? = some c ∧ onB P c = onB P b:=by
      rcases Nat.lt_or_ge b.toNat 128 with h | h
      · rw [decode_lo hb h]
        refine ⟨rfl,Nat.le_refl _,hlt,fun k h1 h2=>?_⟩
        simp only at h2
        obtain rfl:k = i:=by omega
        exact ⟨b,hb,rfl⟩
      · obtain ⟨h1,h2,h3,h4⟩:=decode_hi hb h
        have hq:onB P b = q:=hP.hi _ (by omega)
        refine ⟨by rw [hP.hi _ (by omega),hq],h2,h3,fun k h5 h6=>?_⟩
        obtain ⟨c,h7,h8⟩:=h4 k h5 h6
        exact ⟨c,h7,by rw [hq];exact hP.hi _ (by omega)⟩
    obtain ⟨k1,k2,k3,k4⟩:=key
    simp only [go_sem,hlt,WCall_of (hc _ _),k1]
    refine WG_intro (fun h=>?_) fun h=>?_
    · simp only [go_sem]
      refine ⟨_,?_,i + (Utf8.decode ⟨s.toArray⟩ i).2,k3,rfl,fun k hk=>?_,(by first | rfl | simp),(by first | rfl | simp)⟩
      · omega
      · rcases Nat.lt_or_ge k i with h1 | h1
        · exact hall k h1
        · obtain ⟨c,h2,h3⟩:=k4 k h1 hk
          exact ⟨c,h2,by rw [h3];exact h⟩
    · have hh:headS P s = s.take i:=take_while_at hall (fun c hc=>by rw [hb] at hc;cases hc;exact h)
      simp only [go_sem,bnd,intOf,boundsOk]
      refine ⟨by simp;omega,?_⟩
      rw [hh]
  · simp only [go_sem,hlt]
    have hh:headS P s = s:=by
      have:=take_while_at (p:=onB P) (i:=i) hall (fun c hc=>by have:=lt_of_at hc;omega)
      rw [headS,this,List.take_of_length_le (by omega)]
    rw [hh]
theorem kind_blank:Kind blankI false:=⟨fun r h=>by simp [blankI];omega⟩
theorem kind_other:Kind otherI true:=⟨fun r h=>by simp [otherI];omega⟩
theorem kind_inner:Kind innerI false:=⟨fun r h=>by simp [innerI,letterI,digitI];omega⟩
theorem kind_digit:Kind digitI false:=⟨fun r h=>by simp [digitI];omega⟩
end Am
namespace Am
open Go C
def wordS (s:Str):Bool:=s == [110,111,100,101] || (s == [114,101,116,117,114,110,115] || (s == [118,97,114] || (s == [108,101,116] || (s == [116,101,108] || (s == [105,102] || (s == [116,104,101,110] || (s == [101,108,115,101] || (s == [102,98,121] ||
  (s == [112,114,101] || (s == [119,104,101,110] || (s == [117,110,108,101,115,115] || (s == [109,101,114,103,101] || (s == [110,111,116] || (s == [116,114,117,101] || (s == [102,97,108,115,101] || (s == [105,110,116] || s == [98,111,111,108]))))))))))))))))
def markS (s:Str):Bool:=s == [60,60] || (s == [62,62] || (s == [60,62] || (s == [60,61] || (s == [62,61] || (s == [45,62] || (s == [40] || (s == [41] || (s == [58] || (s == [44] || (s == [59] || (s == [61] || (s == [60] || (s == [62] || (s == [43] || (s == [45] || (s == [42] ||
  (s == [47] || (s == [37] || (s == [38] || (s == [124] || s == [94]))))))))))))))))))))
set_option maxHeartbeats 2000000 in
theorem word_c (s:Str) (H:St):CallsA prg 135 [.d (.str s)] H (.d (.bool (wordS s))) H:=by
  refine calls_of2 rfl f135 ?_
  obtain ⟨B,T,lw⟩:=H
  simp only [go_sem,c135]
  repeat' (refine WG_intro ?_ ?_ <;> intro h <;> (try simp only [go_sem,h]))
  all_goals simp only [wordS, *,Bool.or_true,Bool.or_false,Bool.true_or,Bool.false_or]
set_option maxHeartbeats 2000000 in
theorem mark_c (s:Str) (H:St):CallsA prg 138 [.d (.str s)] H (.d (.bool (markS s))) H:=by
  refine calls_of2 rfl f138 ?_
  obtain ⟨B,T,lw⟩:=H
  simp only [go_sem,c138]
  repeat' (refine WG_intro ?_ ?_ <;> intro h <;> (try simp only [go_sem,h]))
  all_goals simp only [markS, *,Bool.or_true,Bool.or_false,Bool.true_or,Bool.false_or]
def numS:Str→Int→Option Int
  | [],n=>some n
  | c :: cs,n=>if (c.toNat:Int) < 48 ∨ 57 < (c.toNat:Int) then none else numS cs (10 * n + (c.toNat - 48))
def readS (s:Str):Int × Bool:=
  if 11 < s.length ∨ (s.head? = some 48 ∧ s ≠ [48]) then (0,false)
  else match numS s 0 with
    | none=>(0,false)
    | some n=>if n ≤ 2147483647 then (n,true) else (0,false)
theorem numS_bd:∀ (ds:Str) (n m:Int) (i:Nat),0 ≤ n→n < 10 ^ i→numS ds n = some m→0 ≤ m ∧ m < 10 ^ (i + ds.length)
  | [],n,m,i,h1,h2,h=>by simp only [numS,Option.some.injEq] at h;subst h;simpa using ⟨h1,h2⟩
  | c :: cs,n,m,i,h1,h2,h=>by
    simp only [numS] at h
    split at h
    · cases h
    · rename_i hc
      have:=numS_bd cs _ m (i + 1) (by omega) (by rw [Int.pow_succ];omega) h
      rw [List.length_cons,show i + (cs.length + 1) = i + 1 + cs.length by omega]
      exact this
theorem wrapu8 {n:Int} (h:0 ≤ n) (h':n ≤ 255):IntKind.u8.wrap n = n:=by
  show (if (false && decide (n % 256 ≥ 128)) = true then n % 256 - 256 else n % 256) = n
  simp only [Bool.false_and,Bool.false_eq_true,if_false]
  omega
def ReadI (ds:Str) (sg:Int) (B:List Obj) (T:List Nat) (m:Nat) (e:Env) (H:St):Prop:=
  ∃ (i:Nat) (n:Int),i ≤ ds.length ∧ m = ds.length - i ∧ 0 ≤ n ∧ n < 10 ^ i ∧ numS (ds.drop i) n = numS ds 0 ∧
    e = [(4,.d (.str ds)),(5,.d (.int .i64 sg)),(6,.d (.int .i64 n)),(36,.d (.int .i64 ds.length)),(37,.d (.int .i64 i))] ∧ H = ⟨B,T,none⟩
theorem read_loop {K:Out→Env→St→Prop} {ds:Str} {sg:Int} {B:List Obj} {T:List Nat} (hl:ds.length ≤ 11)
    (h1:numS ds 0 = none→K .ret [(2,.d (.int .i32 0)),(3,.d (.bool false))] ⟨B,T,none⟩)
    (h2:∀ n,numS ds 0 = some n→K (.exit 0) [(4,.d (.str ds)),(5,.d (.int .i64 sg)),(6,.d (.int .i64 n)),(36,.d (.int .i64 ds.length)),(37,.d (.int .i64 ds.length)),(38,.d (.bool false))] ⟨B,T,none⟩) :
    WC prg (.loop [4,5,6,36,37] c137l0) K [(4,.d (.str ds)),(5,.d (.int .i64 sg)),(6,.d (.int .i64 0)),(36,.d (.int .i64 ds.length)),(37,.d (.int .i64 0))] ⟨B,T,none⟩:=by
  refine loop_I (ReadI ds sg B T) ds.length ⟨0,0,Nat.zero_le _,rfl,Int.le_refl _,by decide,rfl,rfl,rfl⟩ ?_
  rintro m e H ⟨i,n,hi,rfl,hn1,hn2,hn,rfl,rfl⟩
  have hp:(10:Int) ^ i ≤ 10 ^ 11:=by
    have:10 ^ i ≤ 10 ^ 11:=Nat.pow_le_pow_right (by decide) (by omega)
    exact_mod_cast this
  have hn3:n < 100000000000:=by omega
  simp only [go_sem,c137l0]
  refine WG_intro (fun h=>?_) fun h=>?_
  · have hlt:i < ds.length:=by simpa using h
    obtain ⟨c,hc⟩:=at_of_lt hlt
    rw [drop_at hc,numS] at hn
    simp only [go_sem,hc]
    have hu:=c.toNat_lt
    repeat' (refine WG_intro ?_ ?_ <;> intro h <;> (try simp only [go_sem,h]))
    · have h3:(c.toNat:Int) < 48:=by simpa using h
      rw [if_pos (.inl h3)] at hn
      exact h1 hn.symm
    · rename_i h0
      have h3:57 < (c.toNat:Int):=by simpa using h
      rw [if_pos (.inr h3)] at hn
      exact h1 hn.symm
    · rename_i h0
      have h3:¬ (57 < (c.toNat:Int)):=by simpa using h
      have h4:¬ ((c.toNat:Int) < 48):=by simpa using h0
      rw [if_neg (by omega)] at hn
      simp (disch:=omega) only [wrap64,wrapu8,wrap32]
      exact ⟨_,by omega,i + 1,_,by omega,rfl,by omega,by rw [Int.pow_succ];omega,hn,by simp,rfl⟩
  · have hlt:¬ i < ds.length:=by simpa using h
    have:i = ds.length:=by omega
    subst this
    rw [List.drop_of_length_le (Nat.le_refl _),numS] at hn
    simp only [h]
    exact h2 n hn.symm
theorem wrap_same32 {n:Int}:IntKind.i64.wrap (IntKind.i32.wrap n) = IntKind.i32.wrap n:=by
  have h:IntKind.i32.wrap n = (if n % 4294967296 ≥ 2147483648 then n % 4294967296 - 4294967296 else n % 4294967296):=by
    show (if (true && decide (n % 4294967296 ≥ 2147483648)) = true then n % 4294967296 - 4294967296 else n % 4294967296) = _
    simp only [Bool.true_and,decide_eq_true_eq]
  apply wrap64 <;> rw [h] <;> split <;> omega
theorem wrap32_eq {n:Int}:IntKind.i32.wrap n = n ↔ (-2147483648 ≤ n ∧ n ≤ 2147483647):=by
  show (if (true && decide (n % 4294967296 ≥ 2147483648)) = true then n % 4294967296 - 4294967296 else n % 4294967296) = n ↔ _
  simp only [Bool.true_and,decide_eq_true_eq]
  split <;> omega
theorem u8_beq {c:UInt8} {n:Nat} (hn:n < 256):((c.toNat:Int) == (n:Int)) = (c == UInt8.ofNat n):=by
  have h1:(UInt8.ofNat n).toNat = n:=by simp [UInt8.toNat_ofNat];omega
  by_cases h:c = UInt8.ofNat n
  · subst h;rw [h1];simp
  · have:c.toNat ≠ n:=fun e=>h (UInt8.toNat_inj.1 (by rw [h1];exact e))
    rw [beq_eq_false_iff_ne.2 h,beq_eq_false_iff_ne.2 (by exact_mod_cast this)]
set_option maxHeartbeats 1000000 in
theorem read_c (c:UInt8) (cs:Str) (hc:c ≠ 45) (H:St):CallsA prg 137 [.d (.str (c :: cs))] H (.tup [.d (.int .i32 (readS (c :: cs)).1),.d (.bool (readS (c :: cs)).2)]) H:=by
  have e0:(c :: cs == []) = false:=rfl
  have e1:((c.toNat:Int) == 45) = false:=by
    refine Eq.trans (u8_beq (c:=c) (n:=45) (by omega)) ?_
    simpa using hc
  have e2:((c.toNat:Int) == 48) = (c == 48):=u8_beq (c:=c) (n:=48) (by omega)
  have loop:∀ (B:List Obj) (T:List Nat) (lw:Option Nat),readS (c :: cs) = (match numS (c :: cs) 0 with | none=>(0,false) | some n=>if n ≤ 2147483647 then (n,true) else (0,false))→(c :: cs).length ≤ 11 →
      WC prg (.loop [4,5,6,36,37] c137l0) (kBlock 0 [5,6] (kSeq prg
        ((R [v 56 6,v 57 5,o 58 (HOp.bin BinOp.mul (s 56) (s 57)),v 6 58] [6]).seq
          (((R [v 59 6,o 60 (HOp.convInt IntKind.i32 (s 59)),o 61 (HOp.convInt IntKind.i64 (s 60)),v 62 6,o 63 (HOp.bin BinOp.neq (s 61) (s 62))] [6,63]).seq
                (HC.cond (s 63) ((R [C.c 2 (HV.d (D.int IntKind.i32 0)),C.c 3 (HV.d (D.bool false))] [2,3]).seq HC.ret) HC.skip)).seq
            ((R [v 64 6,o 65 (HOp.convInt IntKind.i32 (s 64)),v 2 65,C.c 3 (HV.d (D.bool true))] [2,3]).seq HC.ret)))
        (WEnd2 [HRes.slot 2,HRes.slot 3] RetPol.shut { objs:=B,tips:=T,low:=lw } (HV.tup [HV.d (D.int IntKind.i32 (readS (c :: cs)).fst),HV.d (D.bool (readS (c :: cs)).snd)]) { objs:=B,tips:=T,low:=lw })))
        [(4,HV.d (D.str (c :: cs))),(5,HV.d (D.int IntKind.i64 1)),(6,HV.d (D.int IntKind.i64 0)),(36,HV.d (D.int IntKind.i64 ↑(c :: cs).length)),(37,HV.d (D.int IntKind.i64 0))] { objs:=B,tips:=T,low:=none }:=by
    intro B T lw hr hl
    refine read_loop hl (fun hn=>?_) fun n hn=>?_
    · simp only [go_sem,hr,hn]
    · have hb:=numS_bd _ 0 n 0 (by omega) (by decide) hn
      have hp:(10:Int) ^ (0 + (c :: cs).length) ≤ 10 ^ 11:=by
        have:10 ^ (0 + (c :: cs).length) ≤ 10 ^ 11:=Nat.pow_le_pow_right (by decide) (by omega)
        exact_mod_cast this
      have hn3:n < 100000000000:=by omega
      rw [hn] at hr
      simp only [go_sem]
      simp (disch:=omega) only [Int.mul_one,wrap64,wrap_same32]
      refine WG_intro (fun h=>?_) fun h=>?_
      · have h:¬ (IntKind.i32.wrap n = n):=by simpa using h
        rw [wrap32_eq] at h
        simp only [go_sem,hr]
        rw [if_neg (by omega)]
      · have h:IntKind.i32.wrap n = n:=by simpa using h
        rw [wrap32_eq] at h
        simp only [go_sem,hr]
        simp (disch:=omega) only [Int.mul_one,wrap64,wrap32]
        rw [if_pos (by omega)]
  refine calls_of2 rfl f137 ?_
  obtain ⟨B,T,lw⟩:=H
  simp only [go_sem,c137,bnd,intOf,boundsOk,e0,e1,e2]
  repeat' (refine WG_intro ?_ ?_ <;> intro h <;> (try simp only [go_sem,h,bnd,intOf,boundsOk,e0,e1,e2]))
  · have h:11 < (c :: cs).length:=by simp at h ⊢;omega
    rw [readS,if_pos (.inl h)]
  · rename_i h1 h2
    refine loop B T lw ?_ ?_
    · have h:c :: cs = [48]:=by simpa using h
      rw [readS,if_neg (by rw [h];simp)]
    · simp at h1 ⊢;omega
  · rename_i h1 h2
    have h2:c = 48:=by simpa using h2
    rw [readS,if_pos (.inr ⟨by rw [h2];rfl,by simpa using h⟩)]
  · rename_i h1
    have h1:(c :: cs).length ≤ 11:=by simp at h1 ⊢;omega
    refine loop B T lw ?_ h1
    rw [readS,if_neg]
    rintro (h2 | ⟨h2,_⟩)
    · omega
    · simp only [List.head?_cons,Option.some.injEq] at h2
      rw [h2] at h
      cases h
end Am
namespace Am
open Go C
theorem head_len (P:Int→Bool) (s:Str):(headS P s).length ≤ s.length:=by
  unfold headS
  exact (List.takeWhile_sublist _).length_le
theorem drop_head (P:Int→Bool) (s:Str):s.drop (headS P s).length = s.dropWhile (onB P):=by
  unfold headS
  induction s with
  | nil=>rfl
  | cons c s ih=>
    simp only [List.takeWhile_cons,List.dropWhile_cons]
    split <;> simp [*]
theorem dropWhile_len {α:Type} (p:α→Bool) (l:List α):(l.dropWhile p).length ≤ l.length:=(List.dropWhile_suffix p).length_le
def nameS (s:Str):Bool:=match s with
  | []=>false
  | c :: _=>decide ((s.length:Int) ≤ 16) && (letterI c.toNat && (headS innerI s == s && !wordS s))
theorem wrap32_u8 (c:UInt8):IntKind.i32.wrap (c.toNat:Int) = c.toNat:=by
  have:=c.toNat_lt
  exact wrap32 (by omega) (by omega)
theorem name_c (s:Str) (hs:s.length ≤ 1000000) (H:St):CallsA prg 70 [.d (.str s)] H (.d (.bool (nameS s))) H:=by
  cases s with
  | nil=>
    refine calls_of2 rfl f70 ?_
    obtain ⟨B,T,lw⟩:=H
    simp only [go_sem,c70]
    simp [nameS]
  | cons c cs=>
    have e0:(c :: cs == []) = false:=rfl
    have hl:=fun H=>WCall_of (letter_c (c.toNat:Int) H)
    have hw:=fun H=>WCall_of (word_c (c :: cs) H)
    have hh:=fun H=>WCall_of (head_c kind_inner inner_c (c :: cs) hs H)
    refine calls_of2 rfl f70 ?_
    obtain ⟨B,T,lw⟩:=H
    simp only [go_sem,c70,e0,wrap32_u8,hl,hw,hh]
    repeat' (refine WG_intro ?_ ?_ <;> intro h <;> (try simp only [go_sem,h,e0,wrap32_u8,hl,hw,hh]))
    all_goals clear hl hw hh
    all_goals simp only [nameS,List.length_cons, *,Bool.and_true,Bool.and_false,Bool.true_and,Bool.false_and,Bool.not_true,Bool.not_false]
def passF:Nat→Str→Str
  | 0,s=>s
  | n + 1,s=>if (s.dropWhile (onB blankI)).length < 2 ∨ (s.dropWhile (onB blankI)).take 2 ≠ [45,45] then s.dropWhile (onB blankI) else passF n ((s.dropWhile (onB blankI)).dropWhile (onB otherI))
def passS (s:Str):Str:=passF (s.length + 1) s
theorem pass_less {s:Str} (h:¬ ((s.dropWhile (onB blankI)).length < 2 ∨ (s.dropWhile (onB blankI)).take 2 ≠ [45,45])):((s.dropWhile (onB blankI)).dropWhile (onB otherI)).length < s.length:=by
  have h1:=dropWhile_len (onB blankI) s
  generalize s.dropWhile (onB blankI) = t at h h1
  match t,h,h1 with
  | [],h,_=>simp at h
  | [_],h,_=>simp at h
  | a :: b :: r,h,h1=>
    simp only [List.take_succ_cons,List.take_zero,ne_eq,not_or,Decidable.not_not,List.cons.injEq,and_true] at h
    obtain ⟨_,rfl,rfl⟩:=h
    have:onB otherI 45 = true:=by decide
    rw [List.dropWhile_cons,if_pos this]
    have:=dropWhile_len (onB otherI) (45 :: r)
    simp at h1 this
    omega
theorem passF_more:∀ (n m:Nat) (s:Str),s.length < n→s.length < m→passF n s = passF m s
  | 0,_,s,h,_=>by omega
  | _,0,s,_,h=>by omega
  | n + 1,m + 1,s,h,h'=>by
    simp only [passF]
    split
    · rfl
    · rename_i hn
      have:=pass_less hn
      exact passF_more n m _ (by omega) (by omega)
theorem passS_eq (s:Str):passS s = if (s.dropWhile (onB blankI)).length < 2 ∨ (s.dropWhile (onB blankI)).take 2 ≠ [45,45] then s.dropWhile (onB blankI) else passS ((s.dropWhile (onB blankI)).dropWhile (onB otherI)):=by
  unfold passS
  rw [passF]
  split
  · rfl
  · rename_i h
    have:=pass_less h
    exact passF_more _ _ _ (by omega) (by omega)
def PassI (s:Str) (B:List Obj) (T:List Nat) (m:Nat) (e:Env) (H:St):Prop:=
  ∃ t:Str,m = t.length ∧ t.length ≤ 1000000 ∧ passS t = passS s ∧ e = [(0,.d (.str t))] ∧ H = ⟨B,T,none⟩
theorem pass_c (s:Str) (hs:s.length ≤ 1000000) (H:St):CallsA prg 58 [.d (.str s)] H (.d (.str (passS s))) H:=by
  refine calls_of2 rfl f58 ?_
  obtain ⟨B,T,lw⟩:=H
  simp only [go_sem,c58]
  refine loop_I (PassI s B T) s.length ⟨s,rfl,hs,rfl,rfl,rfl⟩ ?_
  rintro m e H ⟨t,rfl,ht,hp,rfl,rfl⟩
  have hb:=fun H=>WCall_of (head_c kind_blank blank_c t ht H)
  have hl:=head_len blankI t
  have hd:=drop_head blankI t
  rw [passS_eq] at hp
  generalize ht1:t.dropWhile (onB blankI) = t1 at hp hd
  have ht2:t1.length ≤ t.length:=by rw [← ht1];exact dropWhile_len _ _
  have ho:=fun H=>WCall_of (head_c kind_other other_c t1 (by omega) H)
  have hl1:=head_len otherI t1
  have hd1:=drop_head otherI t1
  have hless:¬ (t1.length < 2 ∨ t1.take 2 ≠ [45,45])→(t1.dropWhile (onB otherI)).length < t.length:=by rw [← ht1];exact pass_less
  simp only [go_sem,c58l0,bnd,intOf,boundsOk,hb,hd,List.take_length]
  refine ⟨by simp;omega,?_⟩
  refine WG_intro (fun h1=>?_) fun h1=>?_
  · have h:t1.length < 2:=by simp at h1;omega
    rw [if_pos (.inl h)] at hp
    simp only [go_sem,h1]
    rw [hp]
  · have h2:¬ t1.length < 2:=by simp at h1;omega
    simp only [go_sem,h1,bnd,intOf,boundsOk]
    refine ⟨by simp;omega,?_⟩
    refine WG_intro (fun h3=>?_) fun h3=>?_
    · have h:t1.take 2 = [45,45]:=by simpa using h3
      have hn:¬ (t1.length < 2 ∨ t1.take 2 ≠ [45,45]):=by simp [h];omega
      rw [if_neg hn] at hp
      simp only [go_sem,h1,h3,bnd,intOf,boundsOk,ho,hd1,List.take_length]
      exact ⟨by simp;omega,_,hless hn,_,rfl,by have:=hless hn;omega,hp,rfl,rfl⟩
    · have h:t1.take 2 ≠ [45,45]:=by simpa using h3
      rw [if_pos (.inr h)] at hp
      simp only [go_sem,h1,h3]
      rw [hp]
structure Tok where
  kind:Int
  text:Str
  n:Int
  at_:Int
deriving DecidableEq
def encTok (t:Tok):List D:=[.int .i64 t.kind,.str t.text,.int .i32 t.n,.int .i64 t.at_]
def nextS:Str→Tok × Int
  | []=>(⟨0,[],0,0⟩,15)
  | c :: cs=>
    let s:=c :: cs
    if letterI c.toNat then
      (if wordS (headS innerI s) then (⟨3,headS innerI s,0,0⟩,0)
      else if 16 < (headS innerI s).length then (⟨1,headS innerI s,0,0⟩,3)
      else (⟨1,headS innerI s,0,0⟩,0))
    else if digitI c.toNat then
      (if (readS (headS digitI s)).2 then (⟨2,headS digitI s,(readS (headS digitI s)).1,0⟩,0) else (⟨2,headS digitI s,0,0⟩,16))
    else if 2 ≤ s.length ∧ markS (s.take 2) = true then (⟨4,s.take 2,0,0⟩,0)
    else if markS (s.take 1) = true then (⟨4,s.take 1,0,0⟩,0)
    else (⟨0,[],0,0⟩,15)
def NextI (s:Str) (B:List Obj) (T:List Nat) (m:Nat) (e:Env) (H:St):Prop:=
  ∃ i:Nat,i ≤ 2 ∧ m = 2 - i ∧ (1 ≤ i→¬ (2 ≤ s.length ∧ markS (s.take 2) = true)) ∧ (2 ≤ i→¬ markS (s.take 1) = true) ∧
    e = [(0,.d (.str s)),(2,.ref B.length 0),(46,.own [[.int .i64 2],[.int .i64 1]] .exact),(47,.d (.int .i64 (2:Nat))),(48,.d (.int .i64 i))] ∧
    H = ⟨B ++ [.cells [.d (.int .i64 0),.d (.str []),.d (.int .i32 0),.d (.int .i64 0)]],T,none⟩
theorem next_c (c:UInt8) (cs:Str) (hs:(c :: cs).length ≤ 1000000) (H:St) :
    CallsA prg 59 [.d (.str (c :: cs))] H (.tup [.agg (dcells (encTok (nextS (c :: cs)).1)),.d (.int .i64 (nextS (c :: cs)).2)]) H:=by
  have hl:=fun H=>WCall_of (letter_c (c.toNat:Int) H)
  have hdg:=fun H=>WCall_of (digit_c (c.toNat:Int) H)
  have hh:=fun H=>WCall_of (head_c kind_inner inner_c (c :: cs) hs H)
  have hg:=fun H=>WCall_of (head_c kind_digit digit_c (c :: cs) hs H)
  have hw:=fun t H=>WCall_of (word_c t H)
  have hm:=fun t H=>WCall_of (mark_c t H)
  refine calls_of2 rfl f59 ?_
  obtain ⟨B,T,lw⟩:=H
  simp only [go_sem,c59,wrap32_u8,hl]
  refine WG_intro (fun h1=>?_) fun h1=>?_
  · simp only [go_sem,h1,hh,hw]
    refine WG_intro (fun h2=>?_) fun h2=>?_
    · simp only [go_sem,h2]
      simp [nextS,h1,h2,encTok,dcells]
    · simp only [go_sem,h2]
      refine WG_intro (fun h3=>?_) fun h3=>?_
      · have h3':16 < (headS innerI (c :: cs)).length:=by simp at h3;omega
        simp only [go_sem,h3]
        simp [nextS,h1,h2,h3',encTok,dcells]
      · have h3':¬ 16 < (headS innerI (c :: cs)).length:=by simp at h3;omega
        simp only [go_sem,h3]
        simp [nextS,h1,h2,h3',encTok,dcells]
  · simp only [go_sem,h1,hdg]
    refine WG_intro (fun h2=>?_) fun h2=>?_
    · have hd:headS digitI (c :: cs) = c :: headS digitI cs:=by
        unfold headS
        rw [List.takeWhile_cons,if_pos (show onB digitI c = true from h2)]
      have hne:c ≠ 45:=by rintro rfl;revert h2;decide
      have hr:=fun H=>WCall_of (read_c c (headS digitI cs) hne H)
      simp only [go_sem,h2,hg,hd,hr]
      refine WG_intro (fun h3=>?_) fun h3=>?_
      · simp only [go_sem,h3]
        simp [nextS,h1,h2,h3,encTok,dcells,hd]
      · simp only [go_sem,h3]
        simp [nextS,h1,h2,h3,encTok,dcells,hd]
    · simp only [go_sem,h2]
      refine loop_I (NextI (c :: cs) B T) 2 ⟨0,by omega,rfl,by omega,by omega,rfl,rfl⟩ ?_
      rintro m e H ⟨i,hi,rfl,hi1,hi2,rfl,rfl⟩
      obtain rfl | rfl | rfl:i = 0 ∨ i = 1 ∨ i = 2:=by omega
      · simp only [go_sem,c59l0,bnd,intOf,boundsOk]
        refine WG_intro (fun h3=>?_) fun h3=>?_
        · have h3':2 ≤ (c :: cs).length:=by simp at h3 ⊢;omega
          have hb:(2:Int) ≤ ((cs.length + 1:Nat):Int):=by simp at h3 ⊢;omega
          simp only [go_sem,h3,bnd,intOf,boundsOk,hm,hb]
          refine WG_intro (fun h4=>?_) fun h4=>?_
          · simp only [go_sem,h4,bnd,intOf,boundsOk,hb]
            have h4':markS ((c :: cs).take 2) = true:=h4
            rw [nextS,if_neg (by simp [h1]),if_neg (by simp [h2]),if_pos ⟨h3',h4'⟩]
            rfl
          · simp only [go_sem,h4,bnd,intOf,boundsOk]
            have h4':markS ((c :: cs).take 2) = false:=h4
            exact ⟨1,by omega,1,by omega,rfl,(fun _ h=>by rw [h4'] at h;exact absurd h.2 (by simp)),(fun h=>absurd h (by omega)),rfl,rfl⟩
        · have h3':¬ 2 ≤ (c :: cs).length:=by
            simp only [ge_iff_le,decide_eq_false_iff_not] at h3
            simp only [List.length_cons]
            omega
          simp only [go_sem,h3,bnd,intOf,boundsOk]
          exact ⟨1,by omega,1,by omega,rfl,fun _ h=>h3' h.1,(fun h=>absurd h (by omega)),rfl,rfl⟩
      · simp only [go_sem,c59l0,bnd,intOf,boundsOk]
        refine WG_intro (fun h3=>?_) fun h3=>?_
        · have hb:(1:Int) ≤ ((cs.length + 1:Nat):Int):=by omega
          simp only [go_sem,h3,bnd,intOf,boundsOk,hm,hb]
          refine WG_intro (fun h4=>?_) fun h4=>?_
          · simp only [go_sem,h4,bnd,intOf,boundsOk,hb]
            have h4':markS ((c :: cs).take 1) = true:=h4
            rw [nextS,if_neg (by simp [h1]),if_neg (by simp [h2]),if_neg (hi1 (by omega)),if_pos h4']
            rfl
          · simp only [go_sem,h4,bnd,intOf,boundsOk]
            have h4':¬ markS ((c :: cs).take 1) = true:=by rw [show markS ((c :: cs).take 1) = false from h4];simp
            exact ⟨0,by omega,2,by omega,rfl,fun _=>hi1 (by omega),fun _=>h4',rfl,rfl⟩
        · simp at h3;omega
      · simp only [go_sem,c59l0,bnd,intOf,boundsOk]
        rw [nextS,if_neg (by simp [h1]),if_neg (by simp [h2]),if_neg (hi1 (by omega)),if_neg (hi2 (by omega))]
        simp [encTok,dcells]
theorem next_len (c:UInt8) (cs:Str) (h:(nextS (c :: cs)).2 = 0):0 < (nextS (c :: cs)).1.text.length ∧ (nextS (c :: cs)).1.text.length ≤ (c :: cs).length:=by
  have hh:∀ P,onB P c = true→0 < (headS P (c :: cs)).length ∧ (headS P (c :: cs)).length ≤ (c :: cs).length:=fun P hP=>by
    refine ⟨?_,head_len _ _⟩
    unfold headS
    rw [List.takeWhile_cons,if_pos hP]
    simp
  have hin:∀ b,letterI b = true→innerI b = true:=fun b h=>by simp [innerI,h]
  revert h
  simp only [nextS]
  split
  · rename_i h1
    have:=hh innerI (hin _ h1)
    (repeat' split) <;> intro _ <;> exact this
  · split
    · rename_i h1
      have:=hh digitI h1
      (repeat' split) <;> intro _ <;> exact this
    · split
      · rename_i h;intro _;simp at h ⊢;omega
      · split
        · intro _;simp
        · simp
end Am
namespace Am
open Go C
theorem pass_len:∀ (n:Nat) (s:Str),(passF n s).length ≤ s.length
  | 0,s=>by simp [passF]
  | n + 1,s=>by
    simp only [passF]
    have h1:=dropWhile_len (onB blankI) s
    split
    · exact h1
    · have h2:=dropWhile_len (onB otherI) (s.dropWhile (onB blankI))
      have:=pass_len n ((s.dropWhile (onB blankI)).dropWhile (onB otherI))
      omega
def restS (s:Str):Str:=passS (s.drop (nextS s).1.text.length)
def scanF:Nat→Nat→Str→List Tok × Int × Int
  | 0,_,_=>([],0,0)
  | n + 1,N,s=>
    if s = [] then ([],0,0)
    else if (nextS s).2 ≠ 0 then ([],(nextS s).2,N - s.length)
    else
      let q:=scanF n N (restS s)
      if q.2.1 ≠ 0 then ([],q.2) else ({ (nextS s).1 with at_:=N - s.length } :: q.1,0,0)
def scanS (s:Str):List Tok × Int × Int:=
  if 4096 < s.length then ([],3,0) else scanF (s.length + 1) s.length (passS s)
theorem rest_less {s:Str} (h:s ≠ []) (h0:(nextS s).2 = 0):(restS s).length < s.length:=by
  cases s with
  | nil=>exact absurd rfl h
  | cons c cs=>
    have:=next_len c cs h0
    have h1:=pass_len (((c :: cs).drop (nextS (c :: cs)).1.text.length).length + 1) ((c :: cs).drop (nextS (c :: cs)).1.text.length)
    unfold restS passS
    simp only [List.length_drop] at h1 ⊢
    omega
theorem scanF_more:∀ (n m N:Nat) (s:Str),s.length < n→s.length < m→scanF n N s = scanF m N s
  | 0,_,_,s,h,_=>by omega
  | _,0,_,s,_,h=>by omega
  | n + 1,m + 1,N,s,h,h'=>by
    simp only [scanF]
    split
    · rfl
    · rename_i hs
      split
      · rfl
      · rename_i h0
        have:=rest_less hs (by simpa using h0)
        rw [scanF_more n m N _ (by omega) (by omega)]
theorem scanF_ok:∀ (n N:Nat) (s:Str),(scanF n N s).2.1 ≠ 0→(scanF n N s).1 = []
  | 0,_,_,h=>by simp [scanF] at h
  | n + 1,N,s,h=>by
    simp only [scanF] at h ⊢
    split
    · rfl
    · rename_i h1
      rw [if_neg h1] at h
      split
      · rfl
      · rename_i h2
        rw [if_neg h2] at h
        split
        · rfl
        · rename_i h3
          rw [if_neg h3] at h
          simp at h
theorem scanF_zero:∀ (n N:Nat) (s:Str),(scanF n N s).2.1 = 0→(scanF n N s).2 = (0,0)
  | 0,_,_,_=>rfl
  | n + 1,N,s,h=>by
    simp only [scanF] at h ⊢
    split
    · rfl
    · rename_i h1
      rw [if_neg h1] at h
      split
      · rename_i h2;rw [if_pos h2] at h;exact absurd h h2
      · rename_i h2
        rw [if_neg h2] at h
        split
        · rename_i h3;rw [if_pos h3] at h;exact absurd h h3
        · rfl
def ScanI (s:Str) (B:List Obj) (T:List Nat) (m:Nat) (e:Env) (H:St):Prop:=
  ∃ (acc:List Tok) (t:Str),m = t.length ∧ t.length ≤ s.length ∧ acc.length + t.length ≤ s.length ∧
    scanS s = (if (scanF (t.length + 1) s.length t).2.1 ≠ 0 then ([],(scanF (t.length + 1) s.length t).2) else (acc ++ (scanF (t.length + 1) s.length t).1,0,0)) ∧
    e = [(0,.d (.str s)),(5,.own (acc.map encTok) (tipT T 4 (acc.map encTok))),(6,.d (.str t))] ∧ H = ⟨B,tipL T (acc.map encTok),none⟩
theorem enc_toks_all (acc:List Tok):(acc.map encTok).all (·.length == 4) = true:=by
  simp [encTok]
theorem scan_c (s:Str) (hs:s.length ≤ 1000000) (H:St) :
    CallsA prg 24 [.d (.str s)] H (.tup [.d (.sl ((scanS s).1.map encTok)),.d (.int .i64 (scanS s).2.1),.d (.int .i64 (scanS s).2.2)]) H:=by
  have hp:=fun H=>WCall_of (pass_c s hs H)
  refine calls_of2 rfl f24 ?_
  obtain ⟨B,T,lw⟩:=H
  simp only [go_sem,c24,hp]
  refine WG_intro (fun h=>?_) fun h=>?_
  · have h':4096 < s.length:=by simp at h;omega
    simp only [go_sem,h]
    simp [scanS,h']
  · have h':¬ 4096 < s.length:=by simp at h;omega
    simp only [go_sem,h,hp]
    have hpl:(passS s).length ≤ s.length:=pass_len _ _
    refine loop_I (ScanI s B T) (passS s).length ⟨[],passS s,rfl,hpl,by simpa using hpl,?_,rfl,rfl⟩ ?_
    · rw [scanS,if_neg h',scanF_more (s.length + 1) ((passS s).length + 1) _ _ (by omega) (by omega)]
      split
      · rename_i h1;rw [← scanF_ok _ _ _ h1]
      · rename_i h1
        simp only [ne_eq,Decidable.not_not] at h1
        rw [← scanF_zero _ _ _ h1]
        rfl
    · rintro m e H ⟨acc,t,rfl,ht,hat,hsc,rfl,rfl⟩
      simp only [go_sem,c24l0]
      refine WG_intro (fun h1=>?_) fun h1=>?_
      · have h1':t = []:=by simpa using h1
        subst h1'
        simp only [go_sem,h1]
        rw [hsc,scanF,if_pos rfl]
        simp
      · have h1':t ≠ []:=by simpa using h1
        have hless:=rest_less h1'
        rw [scanF,if_neg h1'] at hsc
        cases t with
        | nil=>exact absurd rfl h1'
        | cons c cs=>
          have hn:=fun H=>WCall_of (next_c c cs (by omega) H)
          simp only [encTok,dcells_cons,dcells_nil] at hn
          have hnl:=next_len c cs
          have hrs:restS (c :: cs) = passS ((c :: cs).drop (nextS (c :: cs)).1.text.length):=rfl
          simp only [go_sem,h1,hn]
          generalize nextS (c :: cs) = r at *
          refine WG_intro (fun h2=>?_) fun h2=>?_
          · have h2':r.2 ≠ 0:=by simpa using h2
            simp only [go_sem,h2]
            rw [wrap64 (by simp at ht;omega) (by simp at ht;omega),hsc]
            simp only [h2',ne_eq,not_false_eq_true,if_true]
            simp
          · have h2':r.2 = 0:=by simpa using h2
            have hnl:=hnl h2'
            have hps:=fun H=>WCall_of (pass_c ((c :: cs).drop r.1.text.length) (by simp at ht hs ⊢;omega) H)
            have hap:∀ (B:List Obj) (lw:Option Nat) (r:List D),appendV ⟨B,tipL T (acc.map encTok),lw⟩ 4 (.own (acc.map encTok) (tipT T 4 (acc.map encTok))) [r] = some (.own (acc.map encTok ++ [r]) (tipT T 4 (acc.map encTok ++ [r])),⟨B,tipL T (acc.map encTok ++ [r]),lw⟩):=
              fun B lw r=>appendV_own (by simp) (enc_toks_all acc) (by simp [roomN];simp at hat ht;omega)
            simp only [go_sem,h2,hps,bnd,intOf,boundsOk,hap]
            refine ⟨by simp at hnl ⊢;omega,?_⟩
            rw [wrap64 (by simp at ht;omega) (by simp at ht;omega)]
            simp only [h2',ne_eq,not_true_eq_false,if_false] at hsc
            have hless:=hless h2'
            rw [scanF_more (c :: cs).length ((restS (c :: cs)).length + 1) _ _ hless (by omega)] at hsc
            have e1:List.take (cs.length + 1) (List.drop r.1.text.length (c :: cs)) = List.drop r.1.text.length (c :: cs):=List.take_of_length_le (by simp)
            refine ⟨(restS (c :: cs)).length,by simpa using hless,acc ++ [{ r.1 with at_:=(s.length:Int) - (cs.length + 1:Nat) }],restS (c :: cs),rfl,by omega,by simp at hless hat ⊢;omega,?_,?_,?_⟩
            · rw [hsc]
              by_cases h3:(scanF ((restS (c :: cs)).length + 1) s.length (restS (c :: cs))).2.1 = 0
              · simp [h3]
              · simp [h3]
            · simp [encTok,hrs]
            · simp [encTok]
end Am
