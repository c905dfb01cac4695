/- A part of the proof of BuildAgain: no condition of its own. Whence: AmTree7, AmTree8, AmTree9. -/
import Derived.Test.YtgepkelfblhpnaaGreatDoorA25
set_option linter.all false
namespace Am
open Go C
def decF:Nat→Nat→Str→Str
  | 0,_,acc=>acc
  | f + 1,n,acc=>if n / 10 = 0 then UInt8.ofNat (48 + n % 10) :: acc else decF f (n / 10) (UInt8.ofNat (48 + n % 10) :: acc)
def digitsS (a:Int):Str:=(if a < 0 then [45] else []) ++ decF 10 a.natAbs []
def b8 (b:UInt8):HV:=.d (.int .u8 b.toNat)
def z8:HV:=.d (.int .u8 0)
def DgI (a:Int) (B:List Obj) (T:List Nat) (k:Nat) (e:Env) (H:St):Prop:=
  ∃ (i n:Nat) (acc:Str) (tl:Env),k = i ∧ 1 ≤ i ∧ i ≤ 10 ∧ n < 10 ^ i ∧ n ≤ 2147483648 ∧ acc.length + i = 10 ∧ decF 10 a.natAbs [] = decF i n acc ∧
    e = (0,.d (.int .i32 a)) :: (3,.ref B.length 0) :: (4,.d (.int .i64 ((i + 1:Nat):Int))) :: (5,.d (.int .i64 n)) :: tl ∧
    H = ⟨B ++ [.cells (List.replicate (i + 1) z8 ++ acc.map b8)],T,none⟩
def i8 (b:UInt8):D:=.int .u8 b.toNat
def b8s (s:Str):List HV:=s.map b8
def i8s (s:Str):List D:=s.map i8
def r8s (s:Str):List (List D):=s.map fun b=>[i8 b]
theorem toDs_b8 (s:Str):toDs (b8s s) = some (i8s s):=by
  induction s with
  | nil=>rfl
  | cons b s ih=>simp only [b8s,i8s] at ih ⊢;simp only [List.map_cons,b8,toDs,ih];rfl
theorem chunks_b8 (s:Str) (n:Nat) (h:n = s.length):chunks 1 n (i8s s) = r8s s:=by
  subst h
  induction s with
  | nil=>rfl
  | cons b s ih=>simp only [r8s,i8s] at ih ⊢;simp only [List.map_cons,List.length_cons,chunks,List.take_succ_cons,List.take_zero,List.drop_succ_cons,List.drop_zero,ih]
theorem bytesOf_b8 (s:Str):bytesOf (r8s s) = some s:=by
  induction s with
  | nil=>rfl
  | cons b s ih=>simp only [r8s] at ih ⊢;simp [i8,bytesOf] at ih ⊢;simpa [i8] using ih
theorem digits_c (a:Int) (ha:-2147483648 ≤ a) (ha2:a ≤ 2147483647) (H:St):CallsA prg 75 [.d (.int .i32 a)] H (.d (.str (digitsS a))) H:=by
  have hw:IntKind.i64.wrap a = a:=wrap64 (by omega) (by omega)
  have ex:a.natAbs < 10 ^ 10:=by omega
  refine calls_of2 rfl f75 ?_
  obtain ⟨B,T,lw⟩:=H
  simp only [go_sem,c75,hw]
  refine WG_intro (fun t1=>?_) fun t1=>?_
  case' refine_1=>
    have ha0:a < 0:=by simpa using t1
    have habs:IntKind.i64.wrap (0 - a) = (a.natAbs:Int):=by rw [wrap64 (by omega) (by omega)];omega
    have hneg:decide (a < 0) = true:=t1
    simp only [go_sem,t1,hw,habs]
  case' refine_2=>
    have ha0:¬ a < 0:=by simpa using t1
    have habs:a = (a.natAbs:Int):=by omega
    have hneg:decide (a < 0) = false:=t1
    have hI0:HV.d (.int .i64 a) = HV.d (.int .i64 (a.natAbs:Int)):=by rw [← habs]
    simp only [go_sem,t1,hw,hI0]
  all_goals
    refine loop_I (DgI a B T) 10 ⟨10,a.natAbs,[],_,rfl,by omega,by omega,ex,by omega,rfl,rfl,rfl,rfl⟩ ?_
    rintro m e H ⟨i,n,acc,tl,rfl,hi,hi2,hlt,hmx,hac,hd,rfl,rfl⟩
    obtain ⟨q,rfl⟩:∃ q,m = q + 1:=⟨m - 1,by omega⟩
    have w1:IntKind.i64.wrap (((q + 1 + 1:Nat):Int) - 1) = ((q + 1:Nat):Int):=by rw [wrap64 (by omega) (by omega)];omega
    have ht:((n:Int).tmod 10) = ((n % 10:Nat):Int):=by rw [Int.tmod_eq_emod_of_nonneg (by omega)];omega
    have hq:IntKind.i64.wrap ((n:Int).tdiv 10) = ((n / 10:Nat):Int):=by
      rw [Int.tdiv_eq_ediv_of_nonneg (by omega),wrap64 (by omega) (by omega)];omega
    have h8:IntKind.u8.wrap (IntKind.i64.wrap (48 + ((n % 10:Nat):Int))) = ((UInt8.ofNat (48 + n % 10)).toNat:Int):=by
      rw [wrap64 (by omega) (by omega),wrapu8 (by omega) (by omega)]
      rw [UInt8.toNat_ofNat_of_lt' (by simp [UInt8.size];omega)];omega
    have k1:∀ X:List HV,List.take (q + 1) (List.replicate (q + 1 + 1) z8 ++ X) = List.replicate (q + 1) z8:=by
      intro X;rw [List.take_append_of_le_length (by simp)];simp
    have k2:∀ X:List HV,List.drop (q + 1 + 1) (List.replicate (q + 1 + 1) z8 ++ X) = X:=by
      intro X;rw [List.drop_append_of_le_length (by simp)];simp
    have hcl:List.replicate (q + 1) z8 ++ .d (.int .u8 ((UInt8.ofNat (48 + n % 10)).toNat:Int)) :: acc.map b8 = List.replicate (q + 1) z8 ++ (UInt8.ofNat (48 + n % 10) :: acc).map b8:=rfl
    rw [show decF (q + 1) n acc = if n / 10 = 0 then UInt8.ofNat (48 + n % 10) :: acc else decF q (n / 10) (UInt8.ofNat (48 + n % 10) :: acc) by rw [decF]] at hd
    simp only [go_sem,c75l0,w1,Int.reduceEq,ht,hq,h8,Nat.mul_one,k1,k2]
    refine ⟨by omega,by simp,?_⟩
    refine WG_intro (fun t2=>?_) fun t2=>?_
    · have hz:n / 10 = 0:=by simp at t2;omega
      rw [if_pos hz] at hd
      simp only [go_sem,t2,hneg]
      have hlen2:(UInt8.ofNat (48 + n % 10) :: acc).length = 10 - q:=by simp;omega
      generalize UInt8.ofNat (48 + n % 10) = d at *
      have k5:∀ (m:Nat) (X:List HV),List.drop m (List.replicate m z8 ++ X) = X:=by
        intro m X;rw [List.drop_append_of_le_length (by simp)];simp
      have k5':List.drop (q + 1) (List.replicate (q + 1) z8 ++ (HV.d (.int .u8 (d.toNat:Int)) :: acc.map b8)) = HV.d (.int .u8 (d.toNat:Int)) :: acc.map b8:=k5 _ _
      by_cases ha1:a < 0
      · first
        | exact absurd ha1 ha0
        | (have w2:IntKind.i64.wrap (((q + 1:Nat):Int) - 1) = (q:Int):=by rw [wrap64 (by omega) (by omega)];omega
           refine ⟨by rw [w2];omega,?_⟩
           have g1:((q:Int) = 11) = False:=by simp;omega
           have g2:decide ((q:Int) ≤ 11) = true:=by simp;omega
           refine ⟨by rw [w2];simp,?_⟩
           have k3:∀ X:List HV,List.take q (List.replicate (q + 1) z8 ++ X) = List.replicate q z8:=by
             intro X;rw [List.take_append_of_le_length (by simp)];simp
           have k7:List.take (11 - (q:Int)).toNat (HV.d (.int .u8 45) :: HV.d (.int .u8 (d.toNat:Int)) :: acc.map b8) = b8s (45 :: d :: acc):=by
             rw [List.take_of_length_le (by simp at hlen2 ⊢;omega)];rfl
           have k8:chunks 1 (11 - (q:Int)).toNat (i8s (45 :: d :: acc)) = r8s (45 :: d :: acc):=chunks_b8 _ _ (by simp at hlen2 ⊢;omega)
           have k9:(q + (11 - (q:Int)).toNat ≤ q + (acc.length + 1 + 1)) = True:=by simp at hlen2 ⊢;omega
           simp only [go_sem,w2,bnd,intOf,boundsOk,Nat.mul_one,g1,g2,k3,k5,k7,k8,k9,List.length_replicate,List.length_map,toDs_b8,bytesOf_b8]
           rw [digitsS,hd,if_pos ha0]
           rfl)
      · first
        | exact absurd ha0 ha1
        | (have g1:(((q + 1:Nat):Int) = 11) = False:=by simp;omega
           have g2:decide (((q + 1:Nat):Int) ≤ 11) = true:=by simp;omega
           have k7:List.take (11 - ((q + 1:Nat):Int)).toNat (HV.d (.int .u8 (d.toNat:Int)) :: acc.map b8) = b8s (d :: acc):=by
             rw [List.take_of_length_le (by simp at hlen2 ⊢;omega)];rfl
           have k8:chunks 1 (11 - ((q + 1:Nat):Int)).toNat (i8s (d :: acc)) = r8s (d :: acc):=chunks_b8 _ _ (by simp at hlen2 ⊢;omega)
           have k9:(q + 1 + (11 - ((q + 1:Nat):Int)).toNat ≤ q + 1 + (acc.length + 1)) = True:=by simp at hlen2 ⊢;omega
           simp only [go_sem,bnd,intOf,boundsOk,Nat.mul_one,g1,g2,k5,k7,k8,k9,List.length_replicate,List.length_map,toDs_b8,bytesOf_b8]
           rw [digitsS,hd,if_neg ha0]
           rfl)
    · have hz:n / 10 ≠ 0:=by simp at t2;omega
      rw [if_neg hz] at hd
      have hlt2:n / 10 < 10 ^ q:=by rw [Nat.pow_succ] at hlt;omega
      have hq0:1 ≤ q:=by
        cases q with
        | zero=>simp at hlt2;omega
        | succ q=>omega
      simp only [go_sem,t2]
      exact ⟨q,by omega,q,n / 10,UInt8.ofNat (48 + n % 10) :: acc,[],rfl,hq0,by omega,hlt2,by omega,by simp;omega,hd,rfl,rfl⟩
def atomK (k:Int):Bool:=k == 1 || (k == 2 || (k == 3 || (k == 8 || k == 9)))
def showK (k n:Int) (nm:Str) (t:List Str):Str:=
  if k = 1 then digitsS n
  else if k = 2 then (if n = 0 then wFalse else wTrue)
  else if k = 4 then (if n = 2 then [110,111,116,32] ++ t.getD 0 [] else [45] ++ t.getD 0 [])
  else if k = 5 then t.getD 0 [] ++ [32] ++ markOfS n ++ [32] ++ t.getD 1 []
  else if k = 6 then [105,102,32] ++ t.getD 0 [] ++ [32,116,104,101,110,32] ++ t.getD 1 [] ++ [32,101,108,115,101,32] ++ t.getD 2 []
  else if k = 7 then t.getD 0 [] ++ [32,45,62,32] ++ t.getD 1 []
  else if k = 8 then t.getD 0 [] ++ [32,119,104,101,110,32] ++ nm
  else if k = 9 then t.getD 0 [] ++ [32,117,110,108,101,115,115,32] ++ nm
  else if k = 10 then [109,101,114,103,101,32] ++ nm ++ [32] ++ t.getD 0 [] ++ [32] ++ t.getD 1 []
  else nm
mutual
def showE:Ex→Str
  | .mk k n nm l=>showK k n nm (textsL (k == 6) l)
def textsL (b:Bool):List Ex→List Str
  | []=>[]
  | x :: xs=>(if b || atomK x.kind then showE x else [40] ++ showE x ++ [41]) :: textsL b xs
end
def partE (x:Ex):Str:=if atomK x.kind then showE x else [40] ++ showE x ++ [41]
theorem showE_eq (x:Ex):showE x = showK x.kind x.n x.name (textsL (x.kind == 6) x.sub):=by cases x;rw [showE];rfl
theorem textsL_nil (b:Bool):textsL b [] = []:=by rw [textsL]
theorem textsL_cons (b:Bool) (x:Ex) (xs:List Ex):textsL b (x :: xs) = (if b || atomK x.kind then showE x else [40] ++ showE x ++ [41]) :: textsL b xs:=by rw [textsL]
theorem textsL_six (l:List Ex):textsL true l = l.map showE:=by
  induction l with
  | nil=>rw [textsL_nil];rfl
  | cons x l ih=>rw [textsL_cons,ih];simp
theorem textsL_part (l:List Ex):textsL false l = l.map partE:=by
  induction l with
  | nil=>rw [textsL_nil];rfl
  | cons x l ih=>rw [textsL_cons,ih];simp [partE]
theorem decF_len (f n:Nat) (acc:Str):(decF f n acc).length ≤ f + acc.length:=by
  induction f generalizing n acc with
  | zero=>simp [decF]
  | succ f ih=>
    rw [decF]
    split
    · simp;omega
    · have:=ih (n / 10) (UInt8.ofNat (48 + n % 10) :: acc)
      simp only [List.length_cons] at this;omega
theorem digits_len (a:Int):(digitsS a).length ≤ 11:=by
  have:=decF_len 10 a.natAbs []
  unfold digitsS
  split <;> simp at this ⊢ <;> omega
theorem ite_len {c:Prop} [Decidable c] {a b:Str} {n:Nat} (h:a.length ≤ n) (h':b.length ≤ n):(if c then a else b).length ≤ n:=by
  split <;> assumption
theorem markOf_len (op:Int):(markOfS op).length ≤ 2:=by
  unfold markOfS
  repeat' (first | apply ite_len | decide)
theorem formed_len {x:Ex} (h:x.formed = true):(x.sub.length:Int) = (formS x.kind).1:=by
  rw [x.formed_eq] at h
  simp only [formedA,Bool.and_eq_true,decide_eq_true_eq] at h
  exact h.1.2.1
theorem showK_len (k n:Int) (nm:Str) (t:List Str):(showK k n nm t).length ≤ nm.length + 30 + (t.getD 0 []).length + (t.getD 1 []).length + (t.getD 2 []).length:=by
  have hd:=digits_len n
  have hm:=markOf_len n
  unfold showK
  generalize t.getD 0 [] = a
  generalize t.getD 1 [] = b
  generalize t.getD 2 [] = c
  (repeat' split) <;> simp [wTrue,wFalse] <;> omega
theorem show_len:∀ (n:Nat) (x:Ex),x.size ≤ n→x.fit = true→x.formed = true→(showE x).length + 10 ≤ 1000050 * x.size:=by
  intro n
  induction n with
  | zero=>intro x h;have:=size_pos x;omega
  | succ n ih=>
    intro x hx hf hfo
    have hlen:=formed_len hfo
    have hsz:=x.size_eq
    rw [x.fit_eq] at hf
    simp only [Bool.and_eq_true,decide_eq_true_eq] at hf
    rw [x.formed_eq] at hfo
    simp only [Bool.and_eq_true] at hfo
    have hfol:=hfo.2
    have hfit:=hf.2.2
    have hnm:=hf.1
    have hd:=digits_len x.n
    have hm:=markOf_len x.n
    rw [showE_eq,hsz]
    have hpart:∀ b y,y ∈ x.sub→((if b || atomK y.kind then showE y else [40] ++ showE y ++ [41]):Str).length + 8 ≤ 1000050 * y.size:=by
      intro b y hy
      have h1:=sizeL_mem hy
      have h2:y.formed = true:=by
        generalize x.sub = l at *
        clear hlen h1 hsz hfo hf hfit hnm hd hm
        induction l with
        | nil=>cases hy
        | cons z l ih=>
          rw [formedL_cons] at hfol
          simp only [Bool.and_eq_true] at hfol
          cases hy with
          | head=>exact hfol.1
          | tail _ hy=>exact ih hfol.2 hy
      have:=ih y (by omega) (fitL_mem hfit hy) h2
      split
      · omega
      · simp;omega
    generalize (x.kind == 6) = b
    have hK:=showK_len x.kind x.n x.name (textsL b x.sub)
    generalize hs:x.sub = l at *
    match l,hpart,hlen,hK with
    | [],_,hlen,hK=>
      rw [textsL_nil] at hK
      rw [sizeL_nil,textsL_nil]
      simp at hK;omega
    | [a],hp,hlen,hK=>
      have h1:=hp b a (by simp)
      rw [textsL_cons,textsL_nil] at hK
      rw [sizeL_cons,sizeL_nil,textsL_cons,textsL_nil]
      generalize ((if b || atomK a.kind then showE a else [40] ++ showE a ++ [41]):Str) = t at *
      simp at hK;omega
    | [a,c],hp,hlen,hK=>
      have h1:=hp b a (by simp)
      have h2:=hp b c (by simp)
      rw [textsL_cons,textsL_cons,textsL_nil] at hK
      rw [sizeL_cons,sizeL_cons,sizeL_nil,textsL_cons,textsL_cons,textsL_nil]
      generalize ((if b || atomK a.kind then showE a else [40] ++ showE a ++ [41]):Str) = t at *
      generalize ((if b || atomK c.kind then showE c else [40] ++ showE c ++ [41]):Str) = u at *
      simp at hK;omega
    | [a,c,d],hp,hlen,hK=>
      have h1:=hp b a (by simp)
      have h2:=hp b c (by simp)
      have h3:=hp b d (by simp)
      rw [textsL_cons,textsL_cons,textsL_cons,textsL_nil] at hK
      rw [sizeL_cons,sizeL_cons,sizeL_cons,sizeL_nil,textsL_cons,textsL_cons,textsL_cons,textsL_nil]
      generalize ((if b || atomK a.kind then showE a else [40] ++ showE a ++ [41]):Str) = t at *
      generalize ((if b || atomK c.kind then showE c else [40] ++ showE c ++ [41]):Str) = u at *
      generalize ((if b || atomK d.kind then showE d else [40] ++ showE d ++ [41]):Str) = v at *
      simp at hK;omega
    | _ :: _ :: _ :: _ :: _,_,hlen,_=>
      exfalso
      unfold formS at hlen
      (repeat' split at hlen) <;> simp at hlen <;> omega
theorem formedL_mem {l:List Ex} (h:formedL l = true) {x:Ex} (hx:x ∈ l):x.formed = true:=by
  induction l with
  | nil=>cases hx
  | cons y l ih=>
    rw [formedL_cons] at h
    simp only [Bool.and_eq_true] at h
    cases hx with
    | head=>exact h.1
    | tail _ hx=>exact ih h.2 hx
def ShI (x:Ex) (B:List Obj) (T:List Nat) (k:Nat) (e:Env) (H:St):Prop:=
  ∃ (i:Nat) (acc:List Str),k = x.sub.length - i ∧ i ≤ x.sub.length ∧ acc.length = i ∧ textsL (x.kind == 6) x.sub = acc ++ textsL (x.kind == 6) (x.sub.drop i) ∧
    e = [(1,.ref B.length 0),(3,.own (strRows acc) (tipT T 1 (strRows acc))),(7,.d (.sl (encL x.sub))),(8,.d (.int .i64 x.sub.length)),(9,.d (.int .i64 i))] ∧
    H = ⟨B ++ [cellsE x],tipL T (strRows acc),none⟩
theorem show_c:∀ (n:Nat) (x:Ex),x.size ≤ n→n ≤ 1000000→x.fit = true→x.formed = true→∀ (H:St),CallsA prg 33 [exV x] H (.d (.str (showE x))) H ∧ CallsA prg 74 [exV x] H (.d (.str (partE x))) H:=by
  intro n
  induction n with
  | zero=>intro x h;have:=size_pos x;omega
  | succ n ih=>
    intro x hx hn hf hfo H
    have hlen:=formed_len hfo
    have hsl:=show_len _ x (Nat.le_refl _) hf hfo
    have hsz:=x.size_eq
    have hse:=showE_eq x
    have hf0:=hf
    rw [x.fit_eq] at hf
    simp only [Bool.and_eq_true,decide_eq_true_eq] at hf
    rw [x.formed_eq] at hfo
    simp only [Bool.and_eq_true] at hfo
    have hA:∀ H,CallsA prg 33 [exV x] H (.d (.str (showE x))) H:=by
      intro H
      unfold exV
      refine calls_of2 rfl f33 ?_
      obtain ⟨B,T,lw⟩:=H
      simp only [go_sem,c33]
      refine loop_I (ShI x B T) x.sub.length ⟨0,[],rfl,Nat.zero_le _,rfl,rfl,rfl,rfl⟩ ?_
      rintro k e H ⟨i,acc,rfl,hi,hai,hv,rfl,rfl⟩
      simp only [go_sem,c33l0]
      refine WG_intro (fun h=>?_) fun h=>?_
      · have hlt:i < x.sub.length:=by simpa using h
        obtain ⟨y,hy⟩:=at_of_lt hlt
        have hmem:=List.mem_of_getElem? hy
        have hyf:=fitL_mem hf.2.2 hmem
        have hyo:=formedL_mem hfo.2 hmem
        have hys:=sizeL_mem hmem
        rw [drop_at hy,textsL_cons] at hv
        have e2:(encL x.sub)[i]? = some (encE y):=by rw [encL_at,hy];rfl
        have hrec:=fun H=>WCall_of (ih y (by omega) (by omega) hyf hyo H).1
        have hrec2:=fun H=>WCall_of (ih y (by omega) (by omega) hyf hyo H).2
        unfold exV at hrec hrec2
        simp only [go_sem] at hrec hrec2
        have hap:∀ (B:List Obj) (lw:Option Nat) (r:List D),r.length = 1→appendV ⟨B,tipL T (strRows acc),lw⟩ 1 (.own (strRows acc) (tipT T 1 (strRows acc))) [r] = some (.own (strRows acc ++ [r]) (tipT T 1 (strRows acc ++ [r])),⟨B,tipL T (strRows acc ++ [r]),lw⟩):=
          fun B lw r _=>appendV_own (by simp) (by simp [strRows]) (by simp [roomN,strRows];omega)
        have hap':=fun B lw s=>hap B lw [.str s] rfl
        simp only [go_sem,h,e2]
        refine WG_intro (fun h2=>?_) fun h2=>?_
        · simp only [go_sem,h2,hrec,hap']
          rw [wrap64 (by omega) (by omega)]
          refine ⟨_,by omega,i + 1,acc ++ [showE y],rfl,by omega,by simp [hai],?_,?_,?_⟩
          · rw [hv,h2];simp
          · simp [strRows]
          · simp [strRows,go_sem]
        · simp only [go_sem,h2,hrec2,hap']
          rw [wrap64 (by omega) (by omega)]
          refine ⟨_,by omega,i + 1,acc ++ [partE y],rfl,by omega,by simp [hai],?_,?_,?_⟩
          · rw [hv,h2];simp [partE]
          · simp [strRows]
          · simp [strRows,go_sem]
      · have hlt:x.sub.length ≤ i:=by simpa using h
        rw [List.drop_of_length_le hlt,textsL_nil,List.append_nil] at hv
        rw [hv] at hse
        have hal:(acc.length:Int) = (formS x.kind).1:=by rw [hai,← hlen];omega
        have hL:(showK x.kind x.n x.name acc).length ≤ 2000000000000:=by rw [← hse];omega
        have hfa:=hfo.1
        simp only [formedA,Bool.and_eq_true,decide_eq_true_eq] at hfa
        have hdig:=fun h1 h2 H=>WCall_of (digits_c x.n h1 h2 H)
        have hmk:=fun H=>WCall_of (markOf_c x.n H)
        have a1:acc.length = 1→∃ a,acc = [a]:=fun h=>List.length_eq_one_iff.1 h
        have a2:acc.length = 2→∃ a b,acc = [a,b]:=fun h=>by
          match acc,h with
          | [a,b],_=>exact ⟨a,b,rfl⟩
        have a3:acc.length = 3→∃ a b c,acc = [a,b,c]:=fun h=>by
          match acc,h with
          | [a,b,c],_=>exact ⟨a,b,c,rfl⟩
        clear hv hai
        simp only [go_sem,h]
        refine WG_intro (fun t=>?_) fun t=>?_
        · have hk:x.kind = 1:=by simpa using t
          rw [hk] at hse hL hal hfa
          have hdig:=hdig (by have:=hfa.2.2.1;simp [formS] at this;omega) (by have:=hfa.2.2.2.1;simp [formS] at this;omega)
          simp only [go_sem,t,hdig]
          rw [hse];simp [showK]
        have n1:x.kind ≠ 1:=by simpa using t
        simp only [go_sem,t]
        refine WG_intro (fun t=>?_) fun t=>?_
        · have hk:x.kind = 2:=by simpa using t
          rw [hk] at hse hL hal hfa
          simp only [go_sem,t]
          refine WG_intro (fun t2=>?_) fun t2=>?_
          · simp only [go_sem,t2]
            have t2':x.n = 0:=by simpa using t2
            rw [hse];simp [showK,t2']
          · simp only [go_sem,t2]
            have t2':x.n ≠ 0:=by simpa using t2
            rw [hse];simp [showK,t2']
        have n2:x.kind ≠ 2:=by simpa using t
        simp only [go_sem,t]
        refine WG_intro (fun t=>?_) fun t=>?_
        · have hk:x.kind = 4:=by simpa using t
          rw [hk] at hse hL hal hfa
          obtain ⟨a,rfl⟩:=a1 (by simp [formS] at hal;omega)
          simp only [go_sem,t]
          refine WG_intro (fun t2=>?_) fun t2=>?_
          · have t2':x.n = 2:=by simpa using t2
            simp [showK,t2'] at hL
            simp only [go_sem,t2,strRows,List.map_cons,List.map_nil]
            (repeat' (refine And.intro (by omega) ?_))
            rw [hse];simp [showK,t2']
          · have t2':x.n ≠ 2:=by simpa using t2
            simp [showK,t2'] at hL
            simp only [go_sem,t2,strRows,List.map_cons,List.map_nil]
            (repeat' (refine And.intro (by omega) ?_))
            rw [hse];simp [showK,t2']
        have n4:x.kind ≠ 4:=by simpa using t
        simp only [go_sem,t]
        refine WG_intro (fun t=>?_) fun t=>?_
        · have hk:x.kind = 5:=by simpa using t
          rw [hk] at hse hL hal hfa
          obtain ⟨a,b,rfl⟩:=a2 (by simp [formS] at hal;omega)
          simp [showK] at hL
          simp only [go_sem,t,strRows,List.map_cons,List.map_nil,hmk]
          (repeat' (refine And.intro (by omega) ?_))
          rw [hse];simp [showK]
        have n5:x.kind ≠ 5:=by simpa using t
        simp only [go_sem,t]
        refine WG_intro (fun t=>?_) fun t=>?_
        · have hk:x.kind = 6:=by simpa using t
          rw [hk] at hse hL hal hfa
          obtain ⟨a,b,c,rfl⟩:=a3 (by simp [formS] at hal;omega)
          simp [showK] at hL
          simp only [go_sem,t,strRows,List.map_cons,List.map_nil]
          (repeat' (refine And.intro (by omega) ?_))
          rw [hse];simp [showK]
        have n6:x.kind ≠ 6:=by simpa using t
        simp only [go_sem,t]
        refine WG_intro (fun t=>?_) fun t=>?_
        · have hk:x.kind = 7:=by simpa using t
          rw [hk] at hse hL hal hfa
          obtain ⟨a,b,rfl⟩:=a2 (by simp [formS] at hal;omega)
          simp [showK] at hL
          simp only [go_sem,t,strRows,List.map_cons,List.map_nil]
          (repeat' (refine And.intro (by omega) ?_))
          rw [hse];simp [showK]
        have n7:x.kind ≠ 7:=by simpa using t
        simp only [go_sem,t]
        refine WG_intro (fun t=>?_) fun t=>?_
        · have hk:x.kind = 8:=by simpa using t
          rw [hk] at hse hL hal hfa
          obtain ⟨a,rfl⟩:=a1 (by simp [formS] at hal;omega)
          simp [showK] at hL
          simp only [go_sem,t,strRows,List.map_cons,List.map_nil]
          (repeat' (refine And.intro (by omega) ?_))
          rw [hse];simp [showK]
        have n8:x.kind ≠ 8:=by simpa using t
        simp only [go_sem,t]
        refine WG_intro (fun t=>?_) fun t=>?_
        · have hk:x.kind = 9:=by simpa using t
          rw [hk] at hse hL hal hfa
          obtain ⟨a,rfl⟩:=a1 (by simp [formS] at hal;omega)
          simp [showK] at hL
          simp only [go_sem,t,strRows,List.map_cons,List.map_nil]
          (repeat' (refine And.intro (by omega) ?_))
          rw [hse];simp [showK]
        have n9:x.kind ≠ 9:=by simpa using t
        simp only [go_sem,t]
        refine WG_intro (fun t=>?_) fun t=>?_
        · have hk:x.kind = 10:=by simpa using t
          rw [hk] at hse hL hal hfa
          obtain ⟨a,b,rfl⟩:=a2 (by simp [formS] at hal;omega)
          simp [showK] at hL
          simp only [go_sem,t,strRows,List.map_cons,List.map_nil]
          (repeat' (refine And.intro (by omega) ?_))
          rw [hse];simp [showK]
        have n10:x.kind ≠ 10:=by simpa using t
        simp only [go_sem,t]
        rw [hse];simp [showK,n1,n2,n4,n5,n6,n7,n8,n9,n10]
    refine ⟨hA H,?_⟩
    have hA':=fun H=>WCall_of (hA H)
    unfold exV at hA' ⊢
    simp only [go_sem] at hA'
    have hpe:partE x = if atomK x.kind then showE x else [40] ++ showE x ++ [41]:=rfl
    refine calls_of2 rfl f74 ?_
    obtain ⟨B,T,lw⟩:=H
    simp only [go_sem,c74]
    repeat' (refine WG_intro ?_ ?_ <;> intro h <;> (try simp only [go_sem,h,hA']))
    all_goals (repeat' (refine And.intro (by omega) ?_))
    all_goals (rw [hpe];simp_all [atomK])
end Am
namespace Am
open Go C
def eqOkS (q:Eqn):Bool:=nameS q.name && (decide (rightS q.e = 0) && (if q.delay = 1 then literalS q.first else if q.delay = 0 ∨ q.delay = 2 then sameE q.first ex0 else false))
def wholeS (p:Prog):Bool:=nameS p.name && (p.ins.all (variableS · false) && (p.outs.all (variableS · false) && (p.locals.all (variableS · true) && p.eqs.all eqOkS)))
def Eqn.fit (q:Eqn):Prop:=q.name.length ≤ 1000 ∧ q.e.fit = true ∧ q.first.fit = true
def Prog.fit (p:Prog):Prop:=p.name.length ≤ 1000 ∧ varsFit p.ins ∧ varsFit p.outs ∧ varsFit p.locals ∧ p.eqs.length ≤ 1000000 ∧ ∀ q ∈ p.eqs,q.fit
def progV (p:Prog):HV:=.agg (dcells (encProg p))
def cellsP (p:Prog):Obj:=.cells [.d (.str p.name),.d (.sl (p.ins.map encVar)),.d (.sl (p.outs.map encVar)),.d (.sl (p.locals.map encVar)),.d (.sl (p.eqs.map encEq))]
@[go_sem] theorem cellsP_eq (p:Prog):cellsP p = .cells [.d (.str p.name),.d (.sl (p.ins.map encVar)),.d (.sl (p.outs.map encVar)),.d (.sl (p.locals.map encVar)),.d (.sl (p.eqs.map encEq))]:=(rfl)
theorem calls_same {f:FuncId} {code:HC} {res:List HRes} {pol:RetPol} {args args':List HV} {H H':St} {r:HV} (h1:prg.ext f = none) (h2:prg.funs f = some ⟨code,res,[],pol⟩)
    (h:enter [] 0 args = enter [] 0 args') (hc:CallsA prg f args H r H'):CallsA prg f args' H r H':=hc.mono fun m hm=>by
  cases m with
  | zero=>cases hm
  | succ m=>
    simp only [callN,h1,h2,runFun] at hm ⊢
    rw [← h]
    exact hm
def WvI (p:Prog) (vs:List Var) (own:Bool) (R:Bool) (a b c:Nat) (B:List Obj) (T:List Nat) (k:Nat) (e:Env) (H:St):Prop:=
  ∃ (i:Nat) (ok:Bool),k = vs.length - i ∧ i ≤ vs.length ∧ (ok && (vs.drop i).all (variableS · own)) = R ∧
    e = [(1,.ref B.length 0),(3,.d (.bool ok)),(a,.d (.sl (vs.map encVar))),(b,.d (.int .i64 vs.length)),(c,.d (.int .i64 i))] ∧ H = ⟨B ++ [cellsP p],T,none⟩
def WeI (p:Prog) (R:Bool) (B:List Obj) (T:List Nat) (k:Nat) (e:Env) (H:St):Prop:=
  ∃ (i:Nat) (ok:Bool),k = p.eqs.length - i ∧ i ≤ p.eqs.length ∧ (ok && (p.eqs.drop i).all eqOkS) = R ∧
    e = [(3,.d (.bool ok)),(55,.d (.sl (p.eqs.map encEq))),(56,.d (.int .i64 p.eqs.length)),(57,.d (.int .i64 i))] ∧ H = ⟨B ++ [cellsP p],T,none⟩
theorem whole_c (p:Prog) (hp:p.fit) (H:St):CallsA prg 30 [progV p] H (.d (.bool (wholeS p))) H:=by
  obtain ⟨hp1,hp2,hp3,hp4,hp5,hp6⟩:=hp
  have h1:=fun H=>WCall_of (name_c p.name (by omega) H)
  have hl1:=hp2.1
  have hl2:=hp3.1
  have hl3:=hp4.1
  unfold progV encProg
  simp only [dcells_cons,dcells_nil]
  have hW:wholeS p = wholeS p:=rfl
  conv at hW=>rhs;unfold wholeS
  generalize wholeS p = W at *
  refine calls_of2 rfl f30 ?_
  obtain ⟨B,T,lw⟩:=H
  simp only [go_sem,c30,h1,List.length_map]
  refine loop_I (WvI p p.ins false (nameS p.name && p.ins.all (variableS · false)) 16 17 18 B T) p.ins.length ⟨0,nameS p.name,rfl,Nat.zero_le _,rfl,rfl,rfl⟩ ?_
  rintro k e H ⟨i,ok1,rfl,hi,hv,rfl,rfl⟩
  simp only [go_sem,c30l0]
  refine WG_intro (fun h=>?_) fun h=>?_
  · have hlt:i < p.ins.length:=by simpa using h
    obtain ⟨y,hy⟩:=at_of_lt hlt
    have hyf:=hp2.2 y (List.mem_of_getElem? hy)
    have e2:(p.ins.map encVar)[i]? = some (encVar y):=by simp [hy]
    have hvc:=fun H=>WCall_of (variable_c y hyf false H)
    unfold encVar at hvc
    simp only [dcells_cons,dcells_nil] at hvc
    rw [drop_at hy,List.all_cons] at hv
    simp only [go_sem,h,e2,encVar]
    cases ok1 with
    | true=>
      simp only [go_sem,hvc]
      rw [wrap64 (by omega) (by omega)]
      exact ⟨_,by omega,i + 1,variableS y false,rfl,by omega,by rw [← hv];simp,rfl,rfl⟩
    | false=>
      simp only [go_sem,hvc]
      rw [wrap64 (by omega) (by omega)]
      exact ⟨_,by omega,i + 1,false,rfl,by omega,by rw [← hv];simp,rfl,rfl⟩
  have hlt:p.ins.length ≤ i:=by simpa using h
  rw [List.drop_of_length_le hlt,List.all_nil,Bool.and_true] at hv
  simp only [go_sem,h,List.length_map]
  rw [← Bool.and_assoc] at hW
  rw [← hv] at hW
  clear hv h hlt hi i
  refine loop_I (WvI p p.outs false (ok1 && p.outs.all (variableS · false)) 29 30 31 B T) p.outs.length ⟨0,ok1,rfl,Nat.zero_le _,rfl,rfl,rfl⟩ ?_
  rintro k e H ⟨i,ok2,rfl,hi,hv,rfl,rfl⟩
  simp only [go_sem,c30l1]
  refine WG_intro (fun h=>?_) fun h=>?_
  · have hlt:i < p.outs.length:=by simpa using h
    obtain ⟨y,hy⟩:=at_of_lt hlt
    have hyf:=hp3.2 y (List.mem_of_getElem? hy)
    have e2:(p.outs.map encVar)[i]? = some (encVar y):=by simp [hy]
    have hvc:=fun H=>WCall_of (variable_c y hyf false H)
    unfold encVar at hvc
    simp only [dcells_cons,dcells_nil] at hvc
    rw [drop_at hy,List.all_cons] at hv
    simp only [go_sem,h,e2,encVar]
    cases ok2 with
    | true=>
      simp only [go_sem,hvc]
      rw [wrap64 (by omega) (by omega)]
      exact ⟨_,by omega,i + 1,variableS y false,rfl,by omega,by rw [← hv];simp,rfl,rfl⟩
    | false=>
      simp only [go_sem,hvc]
      rw [wrap64 (by omega) (by omega)]
      exact ⟨_,by omega,i + 1,false,rfl,by omega,by rw [← hv];simp,rfl,rfl⟩
  have hlt:p.outs.length ≤ i:=by simpa using h
  rw [List.drop_of_length_le hlt,List.all_nil,Bool.and_true] at hv
  simp only [go_sem,h,List.length_map]
  rw [← Bool.and_assoc] at hW
  rw [← hv] at hW
  clear hv h hlt hi i
  refine loop_I (WvI p p.locals true (ok2 && p.locals.all (variableS · true)) 42 43 44 B T) p.locals.length ⟨0,ok2,rfl,Nat.zero_le _,rfl,rfl,rfl⟩ ?_
  rintro k e H ⟨i,ok3,rfl,hi,hv,rfl,rfl⟩
  simp only [go_sem,c30l2]
  refine WG_intro (fun h=>?_) fun h=>?_
  · have hlt:i < p.locals.length:=by simpa using h
    obtain ⟨y,hy⟩:=at_of_lt hlt
    have hyf:=hp4.2 y (List.mem_of_getElem? hy)
    have e2:(p.locals.map encVar)[i]? = some (encVar y):=by simp [hy]
    have hvc:=fun H=>WCall_of (variable_c y hyf true H)
    unfold encVar at hvc
    simp only [dcells_cons,dcells_nil] at hvc
    rw [drop_at hy,List.all_cons] at hv
    simp only [go_sem,h,e2,encVar]
    cases ok3 with
    | true=>
      simp only [go_sem,hvc]
      rw [wrap64 (by omega) (by omega)]
      exact ⟨_,by omega,i + 1,variableS y true,rfl,by omega,by rw [← hv];simp,rfl,rfl⟩
    | false=>
      simp only [go_sem,hvc]
      rw [wrap64 (by omega) (by omega)]
      exact ⟨_,by omega,i + 1,false,rfl,by omega,by rw [← hv];simp,rfl,rfl⟩
  have hlt:p.locals.length ≤ i:=by simpa using h
  rw [List.drop_of_length_le hlt,List.all_nil,Bool.and_true] at hv
  simp only [go_sem,h,List.length_map]
  rw [← Bool.and_assoc] at hW
  rw [← hv] at hW
  clear hv h hlt hi i
  refine loop_I (WeI p (ok3 && p.eqs.all eqOkS) B T) p.eqs.length ⟨0,ok3,rfl,Nat.zero_le _,rfl,rfl,rfl⟩ ?_
  rintro k e H ⟨i,ok,rfl,hi,hv,rfl,rfl⟩
  simp only [go_sem,c30l3]
  refine WG_intro (fun h=>?_) fun h=>?_
  · have hlt:i < p.eqs.length:=by simpa using h
    obtain ⟨q,hq⟩:=at_of_lt hlt
    obtain ⟨hq1,hq2,hq3⟩:=hp6 q (List.mem_of_getElem? hq)
    have e2:(p.eqs.map encEq)[i]? = some (encEq q):=by simp [hq]
    have d1:=fun H=>WCall_of (name_c q.name (by omega) H)
    have d2:=fun H=>WCall_of (right_c q.e hq2 H)
    have d3:=fun H=>WCall_of (literal_c q.first hq3 H)
    have hen:enter [] 0 [exV q.first,exV ex0] = enter [] 0 [exV q.first,.agg [.d (.int .i64 0),.d (.int .i32 0),.d (.str []),.own [] .exact]]:=by simp only [exV,ex0,go_sem]
    have d4:=fun H=>WCall_of (calls_same rfl f73 hen (same_c _ q.first (Nat.le_refl _) hq3 ex0 H))
    unfold exV at d2 d3 d4
    simp only [go_sem] at d2 d3 d4
    rw [drop_at hq,List.all_cons] at hv
    have hw:IntKind.i64.wrap ((i:Int) + 1) = ((i + 1:Nat):Int):=by rw [wrap64 (by omega) (by omega)];omega
    simp only [go_sem,h,e2,encEq]
    repeat' (refine WG_intro ?_ ?_ <;> intro h <;> (try simp only [go_sem,h,d1,d2,d3,d4,hw]))
    all_goals first
      | (refine ⟨_,?_,i + 1,_,rfl,by omega,?_,rfl,rfl⟩ <;> first | omega | (rw [← hv];simp_all [eqOkS]))
      | (rw [hW,← hv];simp_all [eqOkS])
  have hlt:p.eqs.length ≤ i:=by simpa using h
  rw [List.drop_of_length_le hlt,List.all_nil,Bool.and_true] at hv
  simp only [go_sem,h]
  rw [hW,← hv]
end Am
namespace Am
open Go C
def ownS (v:Var):Str:=[32,32] ++ declaredS v ++ [59,10]
def eqS (q:Eqn):Str:=[32,32] ++ q.name ++ [32,61,32] ++ (if q.delay = 1 then showE q.first ++ [32,102,98,121,32] else if q.delay = 2 then [112,114,101,32] else []) ++ showE q.e ++ [59,10]
def headText (p:Prog):Str:=
  [110,111,100,101,32] ++ p.name ++ [32] ++ listS p.ins ++ [32,114,101,116,117,114,110,115,32] ++ listS p.outs ++ [59,10] ++
    (if p.locals = [] then [] else [118,97,114,10]) ++ (p.locals.map ownS).flatten
def bodyText (p:Prog):Str:=headText p ++ [108,101,116,10] ++ (p.eqs.map eqS).flatten
def textS (p:Prog):Str:=bodyText p ++ [116,101,108,10]
def printS (p:Prog):Str × Int:=if wholeS p then (if 4096 < (textS p).length then ([],3) else (textS p,0)) else ([],4)
theorem list_len {l:List Var} (h:varsFit l):(listS l).length ≤ 3 + 2022 * l.length:=by
  have key:∀ l:List Var,(∀ v ∈ l,v.fit)→(restS2 l).length ≤ 2022 * l.length:=by
    intro l
    induction l with
    | nil=>intro _;simp [restS2]
    | cons v l ih=>
      intro h
      have h1:=declared_len (h v (by simp))
      have h2:=ih fun x hx=>h x (by simp [hx])
      simp only [restS2,List.map_cons,List.flatten_cons,List.length_append,List.length_cons,List.length_nil] at h2 ⊢
      omega
  unfold listS
  cases l with
  | nil=>simp
  | cons v l=>
    have h1:=declared_len (h.2 v (by simp))
    have h2:=key l fun x hx=>h.2 x (by simp [hx])
    simp only [List.length_append,List.length_cons,List.length_nil]
    omega
def PvI (p:Prog) (R:Str) (B:List Obj) (T:List Nat) (k:Nat) (e:Env) (H:St):Prop:=
  ∃ (i:Nat) (acc:Str),k = p.locals.length - i ∧ i ≤ p.locals.length ∧ acc.length ≤ 5000000000 + 3000 * i ∧ acc ++ ((p.locals.drop i).map ownS).flatten = R ∧
    e = [(1,.ref B.length 0),(4,.d (.str acc)),(33,.d (.sl (p.locals.map encVar))),(34,.d (.int .i64 p.locals.length)),(35,.d (.int .i64 i))] ∧ H = ⟨B ++ [cellsP p],T,none⟩
def PeI (p:Prog) (R:Str) (B:List Obj) (T:List Nat) (k:Nat) (e:Env) (H:St):Prop:=
  ∃ (i:Nat) (acc:Str),k = p.eqs.length - i ∧ i ≤ p.eqs.length ∧ acc.length ≤ 10000000000 + 300000000 * i ∧ acc ++ ((p.eqs.drop i).map eqS).flatten = R ∧
    e = [(4,.d (.str acc)),(49,.d (.sl (p.eqs.map encEq))),(50,.d (.int .i64 p.eqs.length)),(51,.d (.int .i64 i))] ∧ H = ⟨B ++ [cellsP p],T,none⟩
theorem right_size {x:Ex} (h:rightS x = 0):x.size ≤ 120:=by
  unfold rightS at h
  split at h
  · omega
  · omega
theorem print_c (p:Prog) (hp:p.fit) (H:St):CallsA prg 12 [progV p] H (.tup [.d (.str (printS p).1),.d (.int .i64 (printS p).2)]) H:=by
  have hwc:=fun H=>WCall_of (whole_c p hp H)
  obtain ⟨hp1,hp2,hp3,hp4,hp5,hp6⟩:=hp
  have h1:=fun H=>WCall_of (list_c p.ins hp2 H)
  have h2:=fun H=>WCall_of (list_c p.outs hp3 H)
  have ll1:=list_len hp2
  have ll2:=list_len hp3
  have hl1:=hp2.1
  have hl2:=hp3.1
  have hl3:=hp4.1
  unfold progV encProg at hwc ⊢
  simp only [dcells_cons,dcells_nil] at hwc ⊢
  refine calls_of2 rfl f12 ?_
  obtain ⟨B,T,lw⟩:=H
  simp only [go_sem,c12,hwc]
  refine WG_intro (fun hw=>?_) fun hw=>?_
  rotate_left
  · simp only [go_sem,hw]
    simp [printS,hw]
  have hw0:=hw
  unfold wholeS at hw0
  simp only [Bool.and_eq_true,List.all_eq_true] at hw0
  have hq:=hw0.2.2.2.2
  clear hw0
  simp only [go_sem,hw,h1,h2]
  (repeat' (refine And.intro (by omega) ?_))
  have e0:(if p.locals = [] then [] else [118,97,114,10]:Str) = if decide ((p.locals.length:Int) > 0) then [118,97,114,10] else []:=by
    cases p.locals with
    | nil=>rfl
    | cons a l=>simp
  refine WG_intro (fun t=>?_) fun t=>?_
  case' refine_1.refine_1=>
    simp only [go_sem,t,List.length_map]
    refine And.intro (by omega) ?_
    have e1:(if p.locals = [] then [] else [118,97,114,10]:Str) = [118,97,114,10]:=by
      have:p.locals ≠ []:=by intro h;simp [h] at t
      simp [this]
  case' refine_1.refine_2=>
    simp only [go_sem,t,List.length_map]
    have e1:(if p.locals = [] then [] else [118,97,114,10]:Str) = []:=by simp at t;simp [t]
  all_goals
    refine loop_I (PvI p (headText p) B T)
      p.locals.length ⟨0,_,rfl,Nat.zero_le _,?_,?_,rfl,rfl⟩ ?_
    · simp;omega
    · unfold headText;rw [e1];simp
    rintro k e H ⟨i,acc,rfl,hi,hac,hv,rfl,rfl⟩
    simp only [go_sem,c12l0]
    refine WG_intro (fun h=>?_) fun h=>?_
    · have hlt:i < p.locals.length:=by simpa using h
      obtain ⟨y,hy⟩:=at_of_lt hlt
      have hyf:=hp4.2 y (List.mem_of_getElem? hy)
      have hdl:=declared_len hyf
      have e2:(p.locals.map encVar)[i]? = some (encVar y):=by simp [hy]
      have hdc:=fun H=>WCall_of (declared_c y hyf H)
      unfold encVar at hdc
      simp only [dcells_cons,dcells_nil] at hdc
      rw [drop_at hy,List.map_cons,List.flatten_cons] at hv
      simp only [go_sem,h,e2,encVar,hdc]
      (repeat' (refine And.intro (by omega) ?_))
      rw [wrap64 (by omega) (by omega)]
      exact ⟨_,by omega,i + 1,acc ++ ownS y,rfl,by omega,by simp [ownS];omega,by rw [← hv];simp,by simp [ownS],rfl⟩
    have hlt:p.locals.length ≤ i:=by simpa using h
    rw [List.drop_of_length_le hlt,List.map_nil,List.flatten_nil,List.append_nil] at hv
    simp only [go_sem,h,List.length_map]
    refine And.intro (by omega) ?_
    refine loop_I (PeI p (bodyText p) B T) p.eqs.length ⟨0,acc ++ [108,101,116,10],rfl,Nat.zero_le _,?_,by rw [hv];rfl,rfl,rfl⟩ ?_
    · simp;omega
    clear h hlt
    rintro k e H ⟨j,acc2,rfl,hj,hac2,hv2,rfl,rfl⟩
    simp only [go_sem,c12l1]
    refine WG_intro (fun h=>?_) fun h=>?_
    · have hlt:j < p.eqs.length:=by simpa using h
      obtain ⟨y,hy⟩:=at_of_lt hlt
      have hmem:=List.mem_of_getElem? hy
      obtain ⟨hy1,hy2,hy3⟩:=hp6 y hmem
      have hyo:=hq y hmem
      unfold eqOkS at hyo
      simp only [Bool.and_eq_true,decide_eq_true_eq] at hyo
      have hys:=right_size hyo.2.1
      have hyl:=show_len _ y.e (Nat.le_refl _) hy2 (right_formed hyo.2.1)
      have e2:(p.eqs.map encEq)[j]? = some (encEq y):=by simp [hy]
      have hsc:=fun H=>WCall_of (show_c _ y.e (Nat.le_refl _) (by omega) hy2 (right_formed hyo.2.1) H).1
      unfold exV at hsc
      simp only [go_sem] at hsc
      rw [drop_at hy,List.map_cons,List.flatten_cons] at hv2
      have hw1:IntKind.i64.wrap ((j:Int) + 1) = ((j + 1:Nat):Int):=by rw [wrap64 (by omega) (by omega)];omega
      simp only [go_sem,h,e2,encEq]
      (repeat' (refine And.intro (by omega) ?_))
      refine WG_intro (fun d1=>?_) fun d1=>?_
      · have hd:y.delay = 1:=by simpa using d1
        have hlit:=hyo.2.2
        rw [if_pos hd] at hlit
        have hr0:rightS y.first = 0:=by
          unfold literalS at hlit
          simp only [Bool.and_eq_true,decide_eq_true_eq] at hlit
          exact hlit.1
        have hfs:=right_size hr0
        have hfl:=show_len _ y.first (Nat.le_refl _) hy3 (right_formed hr0)
        have hsf:=fun H=>WCall_of (show_c _ y.first (Nat.le_refl _) (by omega) hy3 (right_formed hr0) H).1
        unfold exV at hsf
        simp only [go_sem] at hsf
        simp only [go_sem,d1,hsf,hsc,hw1]
        (repeat' (refine And.intro (by omega) ?_))
        exact ⟨_,by omega,j + 1,acc2 ++ eqS y,rfl,by omega,by simp [eqS,hd];omega,by rw [← hv2];simp,by simp [eqS,hd],rfl⟩
      · have hd:y.delay ≠ 1:=by simpa using d1
        simp only [go_sem,d1]
        refine WG_intro (fun d2=>?_) fun d2=>?_
        · have hd2:y.delay = 2:=by simpa using d2
          simp only [go_sem,d2,hsc,hw1]
          (repeat' (refine And.intro (by omega) ?_))
          exact ⟨_,by omega,j + 1,acc2 ++ eqS y,rfl,by omega,by simp [eqS,hd2];omega,by rw [← hv2];simp,by simp [eqS,hd2],rfl⟩
        · have hd2:y.delay ≠ 2:=by simpa using d2
          simp only [go_sem,d2,hsc,hw1]
          (repeat' (refine And.intro (by omega) ?_))
          exact ⟨_,by omega,j + 1,acc2 ++ eqS y,rfl,by omega,by simp [eqS,hd,hd2];omega,by rw [← hv2];simp,by simp [eqS,hd,hd2],rfl⟩
    have hlt:p.eqs.length ≤ j:=by simpa using h
    rw [List.drop_of_length_le hlt,List.map_nil,List.flatten_nil,List.append_nil] at hv2
    have ht:acc2 ++ [116,101,108,10] = textS p:=by rw [hv2];rfl
    have htl:(textS p).length = acc2.length + 4:=by rw [← ht];simp
    simp only [go_sem,h]
    refine And.intro (by omega) ?_
    refine WG_intro (fun t2=>?_) fun t2=>?_
    · simp only [go_sem,t2]
      have:4096 < (textS p).length:=by simp at t2;omega
      simp [printS,hw,this]
    · simp only [go_sem,t2]
      have:¬ 4096 < (textS p).length:=by simp at t2;omega
      have hpr:printS p = (acc2 ++ [116,101,108,10],0):=by unfold printS;rw [if_pos hw,if_neg this,ht]
      rw [hpr]
end Am
