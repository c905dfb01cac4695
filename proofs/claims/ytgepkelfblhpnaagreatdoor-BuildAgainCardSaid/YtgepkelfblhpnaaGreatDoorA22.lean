/- A part of the proof of BuildAgain: no condition of its own. Whence: AmTree1, AmTree2. -/
import Derived.Test.YtgepkelfblhpnaaGreatDoorA21
set_option linter.all false
namespace Am
open Go C
structure PS where
  at_:Nat
  bad:Bool
deriving DecidableEq
def pcells (l:List Tok) (s:PS):List HV:=[.d (.sl (l.map encTok)),.d (.int .i64 s.at_),.d (.bool s.bad)]
def PC (l:List Tok) (s:PS):Obj:=.cells (pcells l s)
def tokD:Tok:=⟨0,[],0,0⟩
def nextP (l:List Tok) (s:PS):Option Tok:=if s.bad then none else l[s.at_]?
def seesP (l:List Tok) (w:Str) (s:PS):Bool:=match nextP l s with
  | some t=>(t.kind == 3 || t.kind == 4) && t.text == w
  | none=>false
def takeP (l:List Tok) (w:Str) (s:PS):PS:=if seesP l w s then ⟨s.at_ + 1,s.bad⟩ else s
def needP (l:List Tok) (w:Str) (s:PS):PS:=if seesP l w s then ⟨s.at_ + 1,s.bad⟩ else ⟨s.at_,true⟩
def isP (l:List Tok) (k:Int) (s:PS):Bool:=match nextP l s with
  | some t=>t.kind == k
  | none=>false
def tokenP (l:List Tok) (k:Int) (s:PS):PS:=if isP l k s then ⟨s.at_ + 1,s.bad⟩ else ⟨s.at_,true⟩
def tokenT (l:List Tok) (k:Int) (s:PS):Tok:=if isP l k s then (nextP l s).getD tokD else tokD
def nameT (l:List Tok) (s:PS):Str:=(tokenT l 1 s).text
def anyP (l:List Tok):List Str→PS→Str
  | [],_=>[]
  | w :: ws,s=>if seesP l w s then w else anyP l ws s
def anyS (l:List Tok) (ws:List Str) (s:PS):PS:=if anyP l ws s = [] then s else ⟨s.at_ + 1,s.bad⟩
def whereP (l:List Tok) (e:Int) (s:PS):Int:=match l[s.at_]? with
  | some t=>t.at_
  | none=>e
def Touch (f:Nat) (args:List HV) (l:List Tok) (o:Nat) (s:PS) (r:HV) (s':PS):Prop:=
  ∀ (B:List Obj) (T:List Nat) (lw:Option Nat),o < B.length→CallsA prg f args ⟨B.set o (PC l s),T,lw⟩ r ⟨B.set o (PC l s'),T,lw⟩
theorem Touch.w {f:Nat} {args:List HV} {l:List Tok} {o:Nat} {s s':PS} {r:HV} (h:Touch f args l o s r s') {B:List Obj} {T:List Nat} {lw:Option Nat} {K:HV→St→Prop} (ho:o < B.length) :
    WCall prg f args ⟨B.set o (PC l s),T,lw⟩ K = K r ⟨B.set o (PC l s'),T,lw⟩:=WCall_of (h B T lw ho) K
theorem Touch.wx {f:Nat} {args:List HV} {l:List Tok} {o:Nat} {s s':PS} {r:HV} (h:Touch f args l o s r s') {B X:List Obj} {T:List Nat} {lw:Option Nat} {K:HV→St→Prop} (ho:o < B.length) :
    WCall prg f args ⟨B.set o (PC l s) ++ X,T,lw⟩ K = K r ⟨B.set o (PC l s') ++ X,T,lw⟩:=by
  have h1:∀ y,B.set o y ++ X = (B ++ X).set o y:=fun y=>(List.set_append_left _ _ ho).symm
  rw [h1,h1]
  exact WCall_of (h (B ++ X) T lw (by simp;omega)) K
theorem set_at {B:List Obj} {o:Nat} {x:Obj} (ho:o < B.length):(B.set o x)[o]? = some x:=by simp [ho]
theorem set_at_app {B X:List Obj} {o:Nat} {x:Obj} (ho:o < B.length):(B.set o x ++ X)[o]? = some x:=by
  rw [List.getElem?_append_left (by simpa using ho)];simp [ho]
theorem set_app_set {B X:List Obj} {o:Nat} {x y:Obj} (ho:o < B.length):(B.set o x ++ X).set o y = B.set o y ++ X:=by
  rw [List.set_append_left _ _ (by simpa using ho),List.set_set]
theorem toks_at (l:List Tok) (i:Nat):(l.map encTok)[i]? = (l[i]?).map encTok:=by simp
theorem toks_len (l:List Tok):(l.map encTok).length = l.length:=by simp
theorem encTok_len (t:Tok):(encTok t).length = 4:=rfl
theorem next_t (l:List Tok) (o:Nat) (s:PS):Touch 141 [.ref o 0] l o s (.tup [.agg (dcells (encTok ((nextP l s).getD tokD))),.d (.bool (nextP l s).isSome)]) s:=by
  intro B T lw ho
  refine calls_of2 rfl f141 ?_
  simp only [go_sem,c141,PC,pcells,set_at ho,set_at_app ho,set_app_set ho,toks_at,toks_len,ho]
  cases hb:s.bad with
  | true=>
    simp only [go_sem]
    simp [nextP,hb,tokD,encTok,dcells]
  | false=>
    simp only [go_sem,PC,pcells,set_at ho,set_at_app ho,set_app_set ho,toks_at,toks_len,ho]
    refine WG_intro (fun h=>?_) fun h=>?_
    · have h':l[s.at_]? = none:=by simp at h ⊢;omega
      simp only [go_sem,h]
      simp [nextP,hb,h',tokD,encTok,dcells]
    · have h':s.at_ < l.length:=by simp at h;omega
      obtain ⟨t,ht⟩:=at_of_lt h'
      simp only [go_sem,h,PC,pcells,set_at ho,set_at_app ho,set_app_set ho,toks_at,toks_len,ho,ht,encTok]
      simp [nextP,hb,ht,encTok,dcells]
theorem sees_t (l:List Tok) (o:Nat) (w:Str) (s:PS):Touch 64 [.ref o 0,.d (.str w)] l o s (.d (.bool (seesP l w s))) s:=by
  intro B T lw ho
  refine calls_of2 rfl f64 ?_
  have hn:=fun (B:List Obj) (T:List Nat) (lw:Option Nat) (K:HV→St→Prop) (ho:o < B.length)=>(next_t l o s).w (B:=B) (T:=T) (lw:=lw) (K:=K) ho
  simp only [go_sem,c64,hn,ho]
  cases ht:nextP l s with
  | none=>
    simp only [go_sem,Option.getD_none,Option.isSome_none,tokD,encTok]
    simp [seesP,ht]
  | some t=>
    simp only [go_sem,Option.getD_some,Option.isSome_some,encTok]
    repeat' (refine WG_intro ?_ ?_ <;> intro h <;> (try simp only [go_sem,h]))
    all_goals simp_all [seesP]
theorem at_bd {l:List Tok} {s:PS} {t:Tok} (h:nextP l s = some t):s.at_ < l.length:=by
  unfold nextP at h
  split at h
  · cases h
  · exact lt_of_at h
theorem sees_bd {l:List Tok} {s:PS} {w:Str} (h:seesP l w s = true):s.at_ < l.length:=by
  unfold seesP at h
  split at h
  · rename_i ht;exact at_bd ht
  · cases h
theorem take_t {l:List Tok} (hl:l.length ≤ 1000000) (o:Nat) (w:Str) (s:PS):Touch 26 [.ref o 0,.d (.str w)] l o s (.d (.bool (seesP l w s))) (takeP l w s):=by
  intro B T lw ho
  refine calls_of2 rfl f26 ?_
  have hn:=fun (B:List Obj) (T:List Nat) (lw:Option Nat) (K:HV→St→Prop) (ho:o < B.length)=>(sees_t l o w s).w (B:=B) (T:=T) (lw:=lw) (K:=K) ho
  simp only [go_sem,c26,hn,ho]
  refine WG_intro (fun h=>?_) fun h=>?_
  · have hb:=sees_bd h
    simp only [go_sem,h,PC,pcells,set_at ho,set_at_app ho,set_app_set ho,toks_at,toks_len,ho]
    rw [wrap64 (by omega) (by omega)]
    simp [takeP,h,PC,pcells]
  · simp only [go_sem,h]
    simp [takeP,h,PC,pcells]
theorem need_t {l:List Tok} (hl:l.length ≤ 1000000) (o:Nat) (w:Str) (s:PS):Touch 60 [.ref o 0,.d (.str w)] l o s (.tup []) (needP l w s):=by
  intro B T lw ho
  refine calls_of2 rfl f60 ?_
  have hn:=fun (B:List Obj) (T:List Nat) (lw:Option Nat) (K:HV→St→Prop) (ho:o < B.length)=>(take_t hl o w s).w (B:=B) (T:=T) (lw:=lw) (K:=K) ho
  simp only [go_sem,c60,hn,ho]
  refine WG_intro (fun h=>?_) fun h=>?_
  · simp only [go_sem,h]
    simp [takeP,needP,h]
  · simp only [go_sem,h,PC,pcells,set_at ho,set_at_app ho,set_app_set ho,toks_at,toks_len,ho]
    simp [takeP,needP,h,PC,pcells]
theorem token_t {l:List Tok} (hl:l.length ≤ 1000000) (o:Nat) (k:Int) (s:PS):Touch 139 [.ref o 0,.d (.int .i64 k)] l o s (.agg (dcells (encTok (tokenT l k s)))) (tokenP l k s):=by
  intro B T lw ho
  refine calls_of2 rfl f139 ?_
  have hn:=fun (B X:List Obj) (T:List Nat) (lw:Option Nat) (K:HV→St→Prop) (ho:o < B.length)=>(next_t l o s).wx (B:=B) (X:=X) (T:=T) (lw:=lw) (K:=K) ho
  simp only [go_sem,c139,hn,ho]
  cases ht:nextP l s with
  | none=>
    simp only [go_sem,Option.getD_none,Option.isSome_none,tokD,encTok,PC,pcells,set_at ho,set_at_app ho,set_app_set ho,toks_at,toks_len,ho]
    simp [isP,tokenT,tokenP,ht,PC,pcells,tokD,encTok,dcells]
  | some t=>
    have hb:=at_bd ht
    simp only [go_sem,Option.getD_some,Option.isSome_some,encTok,PC,pcells,set_at ho,set_at_app ho,set_app_set ho,toks_at,toks_len,ho]
    refine WG_intro (fun h=>?_) fun h=>?_
    · have h':¬ t.kind = k:=by simpa using h
      simp only [go_sem,h,PC,pcells,set_at ho,set_at_app ho,set_app_set ho,toks_at,toks_len,ho]
      simp [isP,tokenT,tokenP,ht,PC,pcells,tokD,encTok,dcells,h']
    · have h':t.kind = k:=by simpa using h
      simp only [go_sem,h,PC,pcells,set_at ho,set_at_app ho,set_app_set ho,toks_at,toks_len,ho]
      rw [wrap64 (by omega) (by omega)]
      simp [isP,tokenT,tokenP,ht,PC,pcells,tokD,encTok,dcells,h']
theorem name_t {l:List Tok} (hl:l.length ≤ 1000000) (o:Nat) (s:PS):Touch 61 [.ref o 0] l o s (.d (.str (nameT l s))) (tokenP l 1 s):=by
  intro B T lw ho
  refine calls_of2 rfl f61 ?_
  have hn:=fun (B:List Obj) (T:List Nat) (lw:Option Nat) (K:HV→St→Prop) (ho:o < B.length)=>(token_t hl o 1 s).w (B:=B) (T:=T) (lw:=lw) (K:=K) ho
  simp only [go_sem,c61,hn,ho,encTok]
  rfl
theorem where_t {l:List Tok} (hl:l.length ≤ 1000000) (o:Nat) (e:Int) (s:PS):Touch 27 [.ref o 0,.d (.int .i64 e)] l o s (.d (.int .i64 (whereP l e s))) s:=by
  intro B T lw ho
  refine calls_of2 rfl f27 ?_
  simp only [go_sem,c27,PC,pcells,set_at ho,set_at_app ho,set_app_set ho,toks_at,toks_len,ho]
  refine WG_intro (fun h=>?_) fun h=>?_
  · have h':s.at_ < l.length:=by simpa using h
    obtain ⟨t,ht⟩:=at_of_lt h'
    simp only [go_sem,h,PC,pcells,set_at ho,set_at_app ho,set_app_set ho,toks_at,toks_len,ho,ht,encTok]
    simp [whereP,ht]
  · have h':l[s.at_]? = none:=by simp at h ⊢;omega
    simp only [go_sem,h]
    simp [whereP,h']
end Am
namespace Am
open Go C
inductive Ex where
  | mk (kind n:Int) (name:Str) (sub:List Ex)
namespace Ex
def kind:Ex→Int | mk k _ _ _=>k
def n:Ex→Int | mk _ n _ _=>n
def name:Ex→Str | mk _ _ s _=>s
def sub:Ex→List Ex | mk _ _ _ l=>l
@[go_sem] theorem kind_mk (k n:Int) (s:Str) (l:List Ex):(mk k n s l).kind = k:=(rfl)
@[go_sem] theorem n_mk (k n:Int) (s:Str) (l:List Ex):(mk k n s l).n = n:=(rfl)
@[go_sem] theorem name_mk (k n:Int) (s:Str) (l:List Ex):(mk k n s l).name = s:=(rfl)
@[go_sem] theorem sub_mk (k n:Int) (s:Str) (l:List Ex):(mk k n s l).sub = l:=(rfl)
end Ex
mutual
def encE:Ex→List D
  | .mk k n nm sub=>[.int .i64 k,.int .i32 n,.str nm,.sl (encL sub)]
def encL:List Ex→List (List D)
  | []=>[]
  | x :: xs=>encE x :: encL xs
end
@[go_sem] theorem encE_eq (x:Ex):encE x = [.int .i64 x.kind,.int .i32 x.n,.str x.name,.sl (encL x.sub)]:=by cases x;rw [encE];rfl
@[go_sem] theorem encL_nil:encL [] = []:=by rw [encL]
@[go_sem] theorem encL_cons (x:Ex) (xs:List Ex):encL (x :: xs) = encE x :: encL xs:=by rw [encL]
theorem encL_map (l:List Ex):encL l = l.map encE:=by
  induction l with
  | nil=>rfl
  | cons x l ih=>simp [encL,ih]
@[go_sem] theorem encL_len (l:List Ex):(encL l).length = l.length:=by rw [encL_map];simp
theorem encL_at (l:List Ex) (k:Nat):(encL l)[k]? = (l[k]?).map encE:=by rw [encL_map];simp
def marksS (k:Int):List Str:=
  if k = 0 then [[124],[94]] else if k = 1 then [[38]] else if k = 2 then [[61],[60,62],[60],[60,61],[62],[62,61]] else if k = 3 then [[60,60],[62,62]] else if k = 4 then [[43],[45]] else [[42],[47],[37]]
def strRows (l:List Str):List (List D):=l.map fun w=>[.str w]
theorem marks_c (k:Int) (H:St):CallsA prg 194 [.d (.int .i64 k)] H (.d (.sl (strRows (marksS k)))) H:=by
  refine calls_of2 rfl f194 ?_
  obtain ⟨B,T,lw⟩:=H
  simp only [go_sem,c194]
  repeat' (refine WG_intro ?_ ?_ <;> intro h <;> (try simp only [go_sem,h]))
  all_goals simp_all [marksS,strRows]
def markOfS (op:Int):Str:=
  if op = 1 then [43] else if op = 2 then [45] else if op = 3 then [42] else if op = 4 then [47] else if op = 5 then [37] else if op = 6 then [60,60] else if op = 7 then [62,62] else if op = 8 then [38] else if op = 9 then [124] else
  if op = 10 then [94] else if op = 11 then [61] else if op = 12 then [60,62] else if op = 13 then [60] else if op = 14 then [60,61] else if op = 15 then [62] else if op = 16 then [62,61] else []
theorem markOf_c (op:Int) (H:St):CallsA prg 76 [.d (.int .i32 op)] H (.d (.str (markOfS op))) H:=by
  refine calls_of2 rfl f76 ?_
  obtain ⟨B,T,lw⟩:=H
  simp only [go_sem,c76]
  repeat' (refine WG_intro ?_ ?_ <;> intro h <;> (try simp only [go_sem,h]))
  all_goals simp_all [markOfS]
def opF:Nat→Int→Str→Int
  | 0,_,_=>0
  | n + 1,i,w=>if markOfS i == w then i else opF n (i + 1) w
def opOfS (w:Str):Int:=opF 16 1 w
def OpI (w:Str) (B:List Obj) (T:List Nat) (m:Nat) (e:Env) (H:St):Prop:=
  m ≤ 16 ∧ opF m (17 - m) w = opOfS w ∧ e = [(0,.d (.str w)),(3,.d (.int .i32 (17 - m)))] ∧ H = ⟨B,T,none⟩
theorem opOf_c (w:Str) (H:St):CallsA prg 195 [.d (.str w)] H (.d (.int .i32 (opOfS w))) H:=by
  refine calls_of2 rfl f195 ?_
  obtain ⟨B,T,lw⟩:=H
  simp only [go_sem,c195]
  refine loop_I (OpI w B T) 16 ⟨Nat.le_refl _,rfl,rfl,rfl⟩ ?_
  rintro m e H ⟨hm,ho,rfl,rfl⟩
  have hmk:=fun H=>WCall_of (markOf_c (17 - (m:Int)) H)
  cases m with
  | zero=>
    simp only [go_sem,c195l0,hmk]
    simp only [opF] at ho
    simp [← ho]
  | succ m=>
    simp only [opF] at ho
    simp only [go_sem,c195l0,hmk]
    refine WG_intro (fun h=>?_) fun h=>?_
    · simp only [go_sem,h,hmk]
      refine WG_intro (fun h=>?_) fun h=>?_
      · simp only [go_sem,h]
        rw [if_pos h] at ho
        rw [ho]
      · simp only [go_sem,h]
        rw [if_neg (by rw [h];simp)] at ho
        rw [wrap32 (by omega) (by omega)]
        exact ⟨m,by omega,by omega,by rw [← ho];congr 1;omega,by simp;omega,rfl⟩
    · simp at h;omega
def AnyI (l:List Tok) (o:Nat) (s:PS) (ws:List Str) (B:List Obj) (T:List Nat) (m:Nat) (e:Env) (H:St):Prop:=
  ∃ i:Nat,i ≤ ws.length ∧ m = ws.length - i ∧ anyP l (ws.drop i) s = anyP l ws s ∧
    e = [(0,.ref o 0),(7,.d (.sl (strRows ws))),(8,.d (.int .i64 ws.length)),(9,.d (.int .i64 i))] ∧ H = ⟨B.set o (PC l s),T,none⟩
theorem any_t {l:List Tok} (hl:l.length ≤ 1000000) (o:Nat) (ws:List Str) (hw:∀ w ∈ ws,w ≠ []) (hn:ws.length ≤ 1000) (s:PS) :
    Touch 193 [.ref o 0,.d (.sl (strRows ws))] l o s (.d (.str (anyP l ws s))) (anyS l ws s):=by
  intro B T lw ho
  refine calls_of2 rfl f193 ?_
  have e1:(strRows ws).length = ws.length:=by simp [strRows]
  simp only [go_sem,c193,e1]
  refine loop_I (AnyI l o s ws B T) ws.length ⟨0,Nat.zero_le _,rfl,rfl,rfl,rfl⟩ ?_
  rintro m e H ⟨i,hi,rfl,ha,rfl,rfl⟩
  simp only [go_sem,c193l0]
  refine WG_intro (fun h=>?_) fun h=>?_
  · have hlt:i < ws.length:=by simpa using h
    obtain ⟨w,hwi⟩:=at_of_lt hlt
    have hw0:=hw w (List.mem_of_getElem? hwi)
    have e2:(strRows ws)[i]? = some [.str w]:=by simp [strRows,hwi]
    rw [drop_at hwi,anyP] at ha
    have ht:=fun (B:List Obj) (T:List Nat) (lw:Option Nat) (K:HV→St→Prop) (ho:o < B.length)=>(take_t hl o w s).w (B:=B) (T:=T) (lw:=lw) (K:=K) ho
    simp only [go_sem,h,e2,ht,ho]
    refine WG_intro (fun h=>?_) fun h=>?_
    · simp only [go_sem,h]
      rw [if_pos h] at ha
      have:anyS l ws s = takeP l w s:=by rw [anyS,← ha,if_neg hw0,takeP,if_pos h]
      rw [← ha,this]
    · have h':takeP l w s = s:=by simp [takeP,h]
      simp only [go_sem,h,h',ho]
      rw [if_neg (by simp [h])] at ha
      rw [wrap64 (by omega) (by omega)]
      exact ⟨_,by omega,i + 1,by omega,rfl,ha,by simp,rfl⟩
  · have hlt:ws.length ≤ i:=by simpa using h
    rw [List.drop_of_length_le hlt,anyP] at ha
    simp only [go_sem,h]
    have:anyS l ws s = s:=by rw [anyS,← ha,if_pos rfl]
    rw [← ha,this]
theorem marks_ne (k:Int):(∀ w ∈ marksS k,w ≠ []) ∧ (marksS k).length ≤ 1000:=by
  unfold marksS
  (repeat' split) <;> simp
end Am
