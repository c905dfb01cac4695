/- A part of the proof of BuildAgain: no condition of its own. Whence: AmTree4. -/
import Derived.Test.YtgepkelfblhpnaaGreatDoorA23
set_option linter.all false
namespace Am
open Go C
def tipB (f:Bool) (T:List Nat) (sz:Nat):Tip:=if f then .tok T.length sz else .exact
def tipC (f:Bool) (T:List Nat) (n:Nat):List Nat:=if f then T ++ [n] else T
@[go_sem] theorem tipC_take (f:Bool) (T:List Nat) (n:Nat):(tipC f T n).take T.length = T:=by
  unfold tipC;split <;> simp
@[go_sem] theorem under_tipB (k sz:Nat) (f:Bool) (T:List Nat) (n:Nat) (rows:List (List D)):HV.under k (tipC f T n).length (.own rows (tipB f T sz)) = true:=by
  unfold tipC tipB
  cases f
  · rfl
  · simp [HV.under,HV.under1]
theorem appendV_tip {B:List Obj} {T:List Nat} {lw:Option Nat} {sz:Nat} {f:Bool} {rows ys:List (List D)} (hy:ys ≠ []) (ha:rows.all (·.length == sz) = true) (hn:rows.length + ys.length ≤ roomN) :
    appendV ⟨B,tipC f T rows.length,lw⟩ sz (.own rows (tipB f T sz)) ys = some (.own (rows ++ ys) (tipB true T sz),⟨B,tipC true T (rows ++ ys).length,lw⟩):=by
  simp only [appendV,hy,if_false,ha,hn,decide_true,Bool.true_and,if_true]
  cases f <;> simp [tipB,tipC]
structure Clk where
  kind:Int
  name:Str
deriving DecidableEq
structure Var where
  name:Str
  ty:Int
  clk:Clk
deriving DecidableEq
def encVar (v:Var):List D:=[.str v.name,.int .i64 v.ty,.int .i64 v.clk.kind,.str v.clk.name]
structure Eqn where
  name:Str
  delay:Int
  first:Ex
  e:Ex
def encEq (q:Eqn):List D:=[.str q.name,.int .i64 q.delay,.int .i64 q.first.kind,.int .i32 q.first.n,.str q.first.name,.sl (encL q.first.sub),.int .i64 q.e.kind,.int .i32 q.e.n,.str q.e.name,.sl (encL q.e.sub)]
structure Prog where
  name:Str
  ins:List Var
  outs:List Var
  locals:List Var
  eqs:List Eqn
def encProg (p:Prog):List D:=[.str p.name,.sl (p.ins.map encVar),.sl (p.outs.map encVar),.sl (p.locals.map encVar),.sl (p.eqs.map encEq)]
def ex0:Ex:=.mk 0 0 [] []
def var0:Var:=⟨[],0,⟨0,[]⟩⟩
def prog0:Prog:=⟨[],[],[],[],[]⟩
abbrev wColon:Str:=[58]
abbrev wBool:Str:=[98,111,111,108]
abbrev wInt:Str:=[105,110,116]
abbrev wSemi:Str:=[59]
abbrev wOpen:Str:=[40]
abbrev wClose:Str:=[41]
abbrev wIs:Str:=[61]
abbrev wPre:Str:=[112,114,101]
abbrev wFby:Str:=[102,98,121]
abbrev wNode:Str:=[110,111,100,101]
abbrev wReturns:Str:=[114,101,116,117,114,110,115]
abbrev wVar:Str:=[118,97,114]
abbrev wLet:Str:=[108,101,116]
abbrev wTel:Str:=[116,101,108]
def declP (l:List Tok) (s:PS):PS:=
  let s2:=needP l wColon (tokenP l 1 s)
  if seesP l wBool s2 then takeP l wBool s2 else needP l wInt s2
def declT (l:List Tok) (s:PS):Var:=⟨nameT l s,if seesP l wBool (needP l wColon (tokenP l 1 s)) then 2 else 1,⟨0,[]⟩⟩
theorem decl_t {l:List Tok} (hl:l.length ≤ 1000000) (o:Nat) (s:PS):Touch 140 [.ref o 0] l o s (.agg (dcells (encVar (declT l s)))) (declP l s):=by
  intro B T lw ho
  refine calls_of2 rfl f140 ?_
  have c1:=@Touch.wx _ _ _ _ _ _ _ (name_t hl o s)
  have c1w:=@Touch.w _ _ _ _ _ _ _ (name_t hl o s)
  have c2:=@Touch.wx _ _ _ _ _ _ _ (need_t hl o wColon (tokenP l 1 s))
  have c2w:=@Touch.w _ _ _ _ _ _ _ (need_t hl o wColon (tokenP l 1 s))
  have c3:=@Touch.wx _ _ _ _ _ _ _ (take_t hl o wBool (needP l wColon (tokenP l 1 s)))
  have c3w:=@Touch.w _ _ _ _ _ _ _ (take_t hl o wBool (needP l wColon (tokenP l 1 s)))
  simp only [go_sem,c140,set_at ho,set_at_app ho,set_app_set ho,ho,c1,c2,c3]
  refine WG_intro (fun hs=>?_) fun hs=>?_
  · simp only [go_sem,hs,set_at ho,set_at_app ho,set_app_set ho,ho]
    simp [declP,declT,hs,encVar,dcells]
  · have c4:=@Touch.wx _ _ _ _ _ _ _ (need_t hl o wInt (needP l wColon (tokenP l 1 s)))
    have c4w:=@Touch.w _ _ _ _ _ _ _ (need_t hl o wInt (needP l wColon (tokenP l 1 s)))
    simp only [go_sem,hs,set_at ho,set_at_app ho,set_app_set ho,ho,take_no hs,c4]
    simp [declP,declT,hs,encVar,dcells]
theorem rem_takeP (l:List Tok) (s:PS) (w:Str):rem l (takeP l w s) ≤ rem l s:=by
  by_cases h:seesP l w s = true
  · exact Nat.le_of_lt (rem_take h)
  · rw [take_no (by simpa using h)];exact Nat.le_refl _
theorem rem_name {l:List Tok} {s:PS} {k:Int} (h:s.bad = false):rem l (tokenP l k s) < rem l s:=by
  unfold tokenP
  split
  · rename_i h;obtain ⟨t,ht⟩:=is_next h;exact rem_drop ht
  · simp [rem,h]
theorem rem_decl (l:List Tok) (s:PS):rem l (declP l s) ≤ rem l (tokenP l 1 s):=by
  unfold declP
  have h1:=rem_need l (tokenP l 1 s) wColon
  have h2:=rem_takeP l (needP l wColon (tokenP l 1 s)) wBool
  have h3:=rem_need l (needP l wColon (tokenP l 1 s)) wInt
  dsimp only
  split <;> omega
def declsF (l:List Tok):Nat→PS→List Var × PS
  | 0,s=>([],s)
  | n + 1,s=>if seesP l wSemi s then (declT l (takeP l wSemi s) :: (declsF l n (declP l (takeP l wSemi s))).1,(declsF l n (declP l (takeP l wSemi s))).2) else ([],s)
theorem declsF_more (l:List Tok):∀ n m s,rem l s < n→rem l s < m→declsF l n s = declsF l m s:=by
  intro n
  induction n with
  | zero=>intro m s h;omega
  | succ n ih=>
    intro m s h h'
    cases m with
    | zero=>omega
    | succ m=>
      simp only [declsF]
      split
      · rename_i hs
        have h1:=rem_take hs
        have h2:=rem_decl l (takeP l wSemi s)
        have h3:=rem_token l (takeP l wSemi s) 1
        rw [ih m _ (by omega) (by omega)]
      · rfl
def moreP (l:List Tok) (s:PS):List Var × PS:=declsF l (rem l s + 1) s
theorem moreP_eq (l:List Tok) (s:PS):moreP l s = if seesP l wSemi s then (declT l (takeP l wSemi s) :: (moreP l (declP l (takeP l wSemi s))).1,(moreP l (declP l (takeP l wSemi s))).2) else ([],s):=by
  unfold moreP
  rw [declsF]
  split
  · rename_i hs
    have h1:=rem_take hs
    have h2:=rem_decl l (takeP l wSemi s)
    have h3:=rem_token l (takeP l wSemi s) 1
    rw [declsF_more l (rem l s) _ _ (by omega) (Nat.lt_succ_self _)]
  · rfl
def declsT (l:List Tok) (s:PS):List Var:=
  let s1:=needP l wOpen s
  if seesP l wClose s1 then [] else declT l s1 :: (moreP l (declP l s1)).1
def declsP (l:List Tok) (s:PS):PS:=
  let s1:=needP l wOpen s
  if seesP l wClose s1 then takeP l wClose s1 else needP l wClose (moreP l (declP l s1)).2
theorem enc_vars_all (acc:List Var):(acc.map encVar).all (·.length == 4) = true:=by simp [encVar]
theorem more_len (l:List Tok) (n:Nat) (s:PS):(declsF l n s).1.length ≤ rem l s:=by
  induction n generalizing s with
  | zero=>simp [declsF]
  | succ n ih=>
    rw [declsF]
    split
    · rename_i hs
      have h1:=rem_take hs
      have h2:=rem_decl l (takeP l wSemi s)
      have h3:=rem_token l (takeP l wSemi s) 1
      have:=ih (declP l (takeP l wSemi s))
      simp only [List.length_cons];omega
    · simp
theorem rem_le (l:List Tok) (s:PS):rem l s ≤ l.length + 1:=by unfold rem;split <;> omega
def DsI (l:List Tok) (o:Nat) (r:List Var × PS) (B:List Obj) (T:List Nat) (m:Nat) (e:Env) (H:St):Prop:=
  ∃ (f:Bool) (acc:List Var) (s:PS),m = rem l s ∧ acc.length + rem l s ≤ l.length + 2 ∧ r = (acc ++ (moreP l s).1,(moreP l s).2) ∧
    e = [(0,.ref o 0),(3,.own (acc.map encVar) (tipB f T 4))] ∧ H = ⟨B.set o (PC l s),tipC f T acc.length,none⟩
theorem decls_t {l:List Tok} (hl:l.length ≤ 1000000) (o:Nat) (s:PS):Touch 62 [.ref o 0] l o s (.d (.sl ((declsT l s).map encVar))) (declsP l s):=by
  intro B T lw ho
  refine calls_of2 rfl f62 ?_
  have c1:=@Touch.wx _ _ _ _ _ _ _ (need_t hl o wOpen s)
  have c1w:=@Touch.w _ _ _ _ _ _ _ (need_t hl o wOpen s)
  have c2:=@Touch.wx _ _ _ _ _ _ _ (take_t hl o wClose (needP l wOpen s))
  have c2w:=@Touch.w _ _ _ _ _ _ _ (take_t hl o wClose (needP l wOpen s))
  simp only [go_sem,c62,set_at ho,set_at_app ho,set_app_set ho,ho,c1,c2,c1w,c2w]
  refine WG_intro (fun hs=>?_) fun hs=>?_
  · simp only [go_sem,hs,set_at ho,set_at_app ho,set_app_set ho,ho]
    simp [declsP,declsT,hs]
  · have c4:=@Touch.wx _ _ _ _ _ _ _ (decl_t hl o (needP l wOpen s))
    have c4w:=@Touch.w _ _ _ _ _ _ _ (decl_t hl o (needP l wOpen s))
    simp only [go_sem,hs,set_at ho,set_at_app ho,set_app_set ho,ho,take_no hs,c4,c4w,encVar]
    refine loop_I (DsI l o (declT l (needP l wOpen s) :: (moreP l (declP l (needP l wOpen s))).1,(moreP l (declP l (needP l wOpen s))).2) B T) (rem l (declP l (needP l wOpen s)))
      ⟨false,[declT l (needP l wOpen s)],_,rfl,?_,rfl,rfl,rfl⟩ ?_
    · have:=rem_le l (declP l (needP l wOpen s));simp;omega
    clear c1 c1w c2 c2w c4 c4w
    rintro m e H ⟨f,acc,s2,rfl,hacc,hr,rfl,rfl⟩
    have c5:=@Touch.wx _ _ _ _ _ _ _ (take_t hl o wSemi s2)
    have c5w:=@Touch.w _ _ _ _ _ _ _ (take_t hl o wSemi s2)
    rw [moreP_eq l s2] at hr
    simp only [go_sem,c62l0,c5w,set_at ho,set_at_app ho,set_app_set ho,ho]
    refine WG_intro (fun hs2=>?_) fun hs2=>?_
    · rw [if_pos hs2] at hr
      have c6:=@Touch.wx _ _ _ _ _ _ _ (decl_t hl o (takeP l wSemi s2))
      have c6w:=@Touch.w _ _ _ _ _ _ _ (decl_t hl o (takeP l wSemi s2))
      have h1:=rem_take hs2
      have h2:=rem_decl l (takeP l wSemi s2)
      have h3:=rem_token l (takeP l wSemi s2) 1
      have hap:∀ (B:List Obj) (lw:Option Nat) (r:List D),appendV ⟨B,tipC f T acc.length,lw⟩ 4 (.own (acc.map encVar) (tipB f T 4)) [r] = some (.own (acc.map encVar ++ [r]) (tipB true T 4),⟨B,tipC true T (acc.length + 1),lw⟩):=by
        intro B lw r
        have:=appendV_tip (B:=B) (T:=T) (lw:=lw) (sz:=4) (f:=f) (rows:=acc.map encVar) (ys:=[r]) (by simp) (enc_vars_all acc) (by simp [roomN];omega)
        simpa using this
      simp only [go_sem,hs2,set_at ho,set_at_app ho,set_app_set ho,ho,c6w,encVar,hap]
      refine ⟨_,by omega,true,acc ++ [declT l (takeP l wSemi s2)],declP l (takeP l wSemi s2),rfl,by simp;omega,by rw [hr];simp,?_,?_⟩
      · simp [encVar]
      · simp
    · rw [if_neg (by simp [hs2])] at hr
      have c6:=@Touch.wx _ _ _ _ _ _ _ (need_t hl o wClose s2)
      have c6w:=@Touch.w _ _ _ _ _ _ _ (need_t hl o wClose s2)
      simp only [go_sem,hs2,set_at ho,set_at_app ho,set_app_set ho,ho,take_no hs2,c6w]
      simp only [List.append_nil,Prod.mk.injEq] at hr
      obtain ⟨h1,h2⟩:=hr
      subst h1
      simp [declsT,declsP,hs,h2]
def ownClk (l:List Tok) (s:PS):Clk:=
  if seesP l wWhen s then ⟨1,nameT l (takeP l wWhen s)⟩ else if seesP l wUnless s then ⟨2,nameT l (takeP l wUnless s)⟩ else ⟨0,[]⟩
def ownEnd (l:List Tok) (s:PS):PS:=
  if seesP l wWhen s then tokenP l 1 (takeP l wWhen s) else if seesP l wUnless s then tokenP l 1 (takeP l wUnless s) else s
def ownT (l:List Tok) (s:PS):Var:={ declT l s with clk:=ownClk l (declP l s) }
def ownP (l:List Tok) (s:PS):PS:=needP l wSemi (ownEnd l (declP l s))
theorem own_t {l:List Tok} (hl:l.length ≤ 1000000) (o:Nat) (s:PS):Touch 63 [.ref o 0] l o s (.agg (dcells (encVar (ownT l s)))) (ownP l s):=by
  intro B T lw ho
  refine calls_of2 rfl f63 ?_
  have c1:=@Touch.wx _ _ _ _ _ _ _ (decl_t hl o s)
  have c1w:=@Touch.w _ _ _ _ _ _ _ (decl_t hl o s)
  have c2:=@Touch.wx _ _ _ _ _ _ _ (take_t hl o wWhen (declP l s))
  have c2w:=@Touch.w _ _ _ _ _ _ _ (take_t hl o wWhen (declP l s))
  have e0:(declT l s).clk = ⟨0,[]⟩:=rfl
  simp only [go_sem,c63,set_at ho,set_at_app ho,set_app_set ho,ho,c1,encVar,c2,e0]
  refine WG_intro (fun hs=>?_) fun hs=>?_
  · have c3:=@Touch.wx _ _ _ _ _ _ _ (name_t hl o (takeP l wWhen (declP l s)))
    have c3w:=@Touch.w _ _ _ _ _ _ _ (name_t hl o (takeP l wWhen (declP l s)))
    have c4:=@Touch.wx _ _ _ _ _ _ _ (need_t hl o wSemi (tokenP l 1 (takeP l wWhen (declP l s))))
    have c4w:=@Touch.w _ _ _ _ _ _ _ (need_t hl o wSemi (tokenP l 1 (takeP l wWhen (declP l s))))
    simp only [go_sem,hs,set_at ho,set_at_app ho,set_app_set ho,ho,c3,c4]
    simp [ownT,ownP,ownClk,ownEnd,hs]
  · have c3:=@Touch.wx _ _ _ _ _ _ _ (take_t hl o wUnless (declP l s))
    have c3w:=@Touch.w _ _ _ _ _ _ _ (take_t hl o wUnless (declP l s))
    simp only [go_sem,hs,set_at ho,set_at_app ho,set_app_set ho,ho,take_no hs,c3]
    refine WG_intro (fun hs2=>?_) fun hs2=>?_
    · have c4:=@Touch.wx _ _ _ _ _ _ _ (name_t hl o (takeP l wUnless (declP l s)))
      have c4w:=@Touch.w _ _ _ _ _ _ _ (name_t hl o (takeP l wUnless (declP l s)))
      have c5:=@Touch.wx _ _ _ _ _ _ _ (need_t hl o wSemi (tokenP l 1 (takeP l wUnless (declP l s))))
      have c5w:=@Touch.w _ _ _ _ _ _ _ (need_t hl o wSemi (tokenP l 1 (takeP l wUnless (declP l s))))
      simp only [go_sem,hs2,set_at ho,set_at_app ho,set_app_set ho,ho,c4,c5]
      simp [ownT,ownP,ownClk,ownEnd,hs,hs2]
    · have c5:=@Touch.wx _ _ _ _ _ _ _ (need_t hl o wSemi (declP l s))
      have c5w:=@Touch.w _ _ _ _ _ _ _ (need_t hl o wSemi (declP l s))
      simp only [go_sem,hs2,set_at ho,set_at_app ho,set_app_set ho,ho,take_no hs2,c5]
      simp [ownT,ownP,ownClk,ownEnd,hs,hs2]
def litR (l:List Tok) (s:PS):Option (Ex × PS):=
  let m:=seesP l wMinus s
  let s1:=takeP l wMinus s
  if isP l 2 s1 then some (.mk 1 (tokenT l 2 s1).n [] [],tokenP l 2 s1)
  else if !m && seesP l wTrue s1 then some (.mk 2 1 [] [],takeP l wTrue s1)
  else if !m && seesP l wFalse s1 then some (.mk 2 0 [] [],takeP l wFalse s1)
  else none
def firstR (l:List Tok) (s:PS):Option (Ex × PS):=match litR l s with
  | none=>none
  | some (x,s2)=>if seesP l wFby s2 then some (if seesP l wMinus s then .mk 4 1 [] [x] else x,takeP l wFby s2) else none
theorem cellsPC (l:List Tok) (s:PS):cellsOf (some (PC l s)) = pcells l s:=(rfl)
@[go_sem] theorem pcells_eq (l:List Tok) (s:PS):pcells l s = [.d (.sl (l.map encTok)),.d (.int .i64 s.at_),.d (.bool s.bad)]:=(rfl)
theorem foldPC (l:List Tok) (a:Nat) (b:Bool):Obj.cells [.d (.sl (l.map encTok)),.d (.int .i64 a),.d (.bool b)] = PC l ⟨a,b⟩:=(rfl)
theorem PS.eta (s:PS):PS.mk s.at_ s.bad = s:=(rfl)
theorem first_t {l:List Tok} (hl:l.length ≤ 1000000) (o:Nat) (s:PS) :
    Touch 65 [.ref o 0] l o s (.tup [exV (((firstR l s).map (·.1)).getD ex0),.d (.bool (firstR l s).isSome)]) (((firstR l s).map (·.2)).getD s):=by
  intro B T lw ho
  refine calls_of2 rfl f65 ?_
  have c1:=@Touch.wx _ _ _ _ _ _ _ (take_t hl o wMinus s)
  have c1w:=@Touch.w _ _ _ _ _ _ _ (take_t hl o wMinus s)
  have c2:=@Touch.wx _ _ _ _ _ _ _ (next_t l o (takeP l wMinus s))
  have c2w:=@Touch.w _ _ _ _ _ _ _ (next_t l o (takeP l wMinus s))
  have hk:(((nextP l (takeP l wMinus s)).getD tokD).kind == 2) = isP l 2 (takeP l wMinus s):=by unfold isP;cases nextP l (takeP l wMinus s) <;> rfl
  simp only [go_sem,c65,set_at ho,set_at_app ho,set_app_set ho,ho,c1,c2,cellsPC,foldPC,PS.eta,encTok,hk]
  refine WG_intro (fun hs=>?_) fun hs=>?_
  · have hn:((nextP l (takeP l wMinus s)).getD tokD).n = (tokenT l 2 (takeP l wMinus s)).n:=by rw [tokenT,if_pos hs]
    have ha:(takeP l wMinus s).at_ < l.length:=by obtain ⟨t,ht⟩:=is_next hs;exact (rem_next ht).2
    have hw:IntKind.i64.wrap ((takeP l wMinus s).at_ + 1) = ((takeP l wMinus s).at_ + 1:Nat):=by rw [wrap64 (by omega) (by omega)];omega
    have ht:PS.mk ((takeP l wMinus s).at_ + 1) (takeP l wMinus s).bad = tokenP l 2 (takeP l wMinus s):=by rw [tokenP,if_pos hs]
    have hlit:litR l s = some (.mk 1 (tokenT l 2 (takeP l wMinus s)).n [] [],tokenP l 2 (takeP l wMinus s)):=by
      unfold litR;dsimp only;rw [if_pos hs]
    have c3:=@Touch.wx _ _ _ _ _ _ _ (take_t hl o wFby (tokenP l 2 (takeP l wMinus s)))
    have c3w:=@Touch.w _ _ _ _ _ _ _ (take_t hl o wFby (tokenP l 2 (takeP l wMinus s)))
    simp only [go_sem,hs,set_at ho,set_at_app ho,set_app_set ho,ho,cellsPC,foldPC,PS.eta,hn,hw,ht,c3]
    refine WG_intro (fun hf=>?_) fun hf=>?_
    · simp only [go_sem,hf,set_at ho,set_at_app ho,set_app_set ho,ho,cellsPC,foldPC,PS.eta]
      refine WG_intro (fun hm=>?_) fun hm=>?_
      · simp only [go_sem,hm,set_at ho,set_at_app ho,set_app_set ho,ho,exV,cellsPC,foldPC,PS.eta]
        simp [firstR,hlit,hf,hm,exV,dcells,go_sem]
      · simp only [go_sem,hm,set_at ho,set_at_app ho,set_app_set ho,ho,exV,cellsPC,foldPC,PS.eta]
        simp [firstR,hlit,hf,hm,exV,dcells,go_sem]
    · simp only [go_sem,hf,set_at ho,set_at_app ho,set_app_set ho,ho,cellsPC,foldPC,PS.eta]
      simp [firstR,hlit,hf,exV,ex0,dcells,go_sem]
  · cases hm0:seesP l wMinus s with
    | true=>
      have hlit:litR l s = none:=by unfold litR;dsimp only;simp [hs,hm0]
      simp only [go_sem,hs,hm0,set_at ho,set_at_app ho,set_app_set ho,ho,cellsPC,foldPC,PS.eta]
      simp [firstR,hlit,exV,ex0,dcells,go_sem]
    | false=>
      have d1:=@Touch.wx _ _ _ _ _ _ _ (take_t hl o wTrue (takeP l wMinus s))
      have d1w:=@Touch.w _ _ _ _ _ _ _ (take_t hl o wTrue (takeP l wMinus s))
      simp only [go_sem,hs,hm0,set_at ho,set_at_app ho,set_app_set ho,ho,cellsPC,foldPC,PS.eta,d1]
      refine WG_intro (fun h1=>?_) fun h1=>?_
      · have hlit:litR l s = some (.mk 2 1 [] [],takeP l wTrue (takeP l wMinus s)):=by unfold litR;dsimp only;simp [hs,hm0,h1]
        have c3:=@Touch.wx _ _ _ _ _ _ _ (take_t hl o wFby (takeP l wTrue (takeP l wMinus s)))
        have c3w:=@Touch.w _ _ _ _ _ _ _ (take_t hl o wFby (takeP l wTrue (takeP l wMinus s)))
        simp only [go_sem,h1,set_at ho,set_at_app ho,set_app_set ho,ho,cellsPC,foldPC,PS.eta,c3]
        refine WG_intro (fun hf=>?_) fun hf=>?_
        · simp only [go_sem,hf,set_at ho,set_at_app ho,set_app_set ho,ho,cellsPC,foldPC,PS.eta,hm0]
          simp [firstR,hlit,hf,hm0,exV,dcells,go_sem]
        · simp only [go_sem,hf,set_at ho,set_at_app ho,set_app_set ho,ho,cellsPC,foldPC,PS.eta]
          simp [firstR,hlit,hf,exV,ex0,dcells,go_sem]
      · have d2:=@Touch.wx _ _ _ _ _ _ _ (take_t hl o wFalse (takeP l wMinus s))
        have d2w:=@Touch.w _ _ _ _ _ _ _ (take_t hl o wFalse (takeP l wMinus s))
        simp only [go_sem,h1,set_at ho,set_at_app ho,set_app_set ho,ho,cellsPC,foldPC,PS.eta,d2,take_no h1]
        refine WG_intro (fun h2=>?_) fun h2=>?_
        · have hlit:litR l s = some (.mk 2 0 [] [],takeP l wFalse (takeP l wMinus s)):=by unfold litR;dsimp only;simp [hs,hm0,h1,h2]
          have c3:=@Touch.wx _ _ _ _ _ _ _ (take_t hl o wFby (takeP l wFalse (takeP l wMinus s)))
          have c3w:=@Touch.w _ _ _ _ _ _ _ (take_t hl o wFby (takeP l wFalse (takeP l wMinus s)))
          simp only [go_sem,h2,set_at ho,set_at_app ho,set_app_set ho,ho,cellsPC,foldPC,PS.eta,c3]
          refine WG_intro (fun hf=>?_) fun hf=>?_
          · simp only [go_sem,hf,set_at ho,set_at_app ho,set_app_set ho,ho,cellsPC,foldPC,PS.eta,hm0]
            simp [firstR,hlit,hf,hm0,exV,dcells,go_sem]
          · simp only [go_sem,hf,set_at ho,set_at_app ho,set_app_set ho,ho,cellsPC,foldPC,PS.eta]
            simp [firstR,hlit,hf,exV,ex0,dcells,go_sem]
        · have hlit:litR l s = none:=by unfold litR;dsimp only;simp [hs,hm0,h1,h2]
          simp only [go_sem,h2,set_at ho,set_at_app ho,set_app_set ho,ho,cellsPC,foldPC,PS.eta,take_no h2]
          simp [firstR,hlit,exV,ex0,dcells,go_sem]
def eqFirst (l:List Tok) (s:PS):Int × Ex × PS:=
  if seesP l wPre s then (2,ex0,takeP l wPre s) else match firstR l s with
    | some (x,s')=>(1,x,s')
    | none=>(0,ex0,s)
def eqAt (l:List Tok) (s:PS):Int × Ex × PS:=eqFirst l (needP l wIs (tokenP l 1 s))
def eqT (l:List Tok) (s:PS):Eqn:=⟨nameT l s,(eqAt l s).1,(eqAt l s).2.1,exprX l (eqAt l s).2.2⟩
def eqP (l:List Tok) (s:PS):PS:=needP l wSemi (exprP l (eqAt l s).2.2)
theorem eq_t {l:List Tok} (hl:l.length ≤ 1000000) (o:Nat) (s:PS):Touch 28 [.ref o 0] l o s (.agg (dcells (encEq (eqT l s)))) (eqP l s):=by
  intro B T lw ho
  refine calls_of2 rfl f28 ?_
  have c1:=@Touch.wx _ _ _ _ _ _ _ (name_t hl o s)
  have c1w:=@Touch.w _ _ _ _ _ _ _ (name_t hl o s)
  have c2:=@Touch.wx _ _ _ _ _ _ _ (need_t hl o wIs (tokenP l 1 s))
  have c2w:=@Touch.w _ _ _ _ _ _ _ (need_t hl o wIs (tokenP l 1 s))
  have c3:=@Touch.wx _ _ _ _ _ _ _ (take_t hl o wPre (needP l wIs (tokenP l 1 s)))
  have c3w:=@Touch.w _ _ _ _ _ _ _ (take_t hl o wPre (needP l wIs (tokenP l 1 s)))
  simp only [go_sem,c28,set_at ho,set_at_app ho,set_app_set ho,ho,c1,c2,c3]
  refine WG_intro (fun hs=>?_) fun hs=>?_
  · have c4:=@Touch.wx _ _ _ _ _ _ _ (expr_c hl o (takeP l wPre (needP l wIs (tokenP l 1 s))))
    have c4w:=@Touch.w _ _ _ _ _ _ _ (expr_c hl o (takeP l wPre (needP l wIs (tokenP l 1 s))))
    have c5:=@Touch.wx _ _ _ _ _ _ _ (need_t hl o wSemi (exprP l (takeP l wPre (needP l wIs (tokenP l 1 s)))))
    have c5w:=@Touch.w _ _ _ _ _ _ _ (need_t hl o wSemi (exprP l (takeP l wPre (needP l wIs (tokenP l 1 s)))))
    simp only [go_sem,hs,set_at ho,set_at_app ho,set_app_set ho,ho,c4,c5,exV]
    simp [eqT,eqP,eqAt,eqFirst,hs,encEq,ex0,dcells,go_sem]
  · have c4:=@Touch.wx _ _ _ _ _ _ _ (first_t hl o (needP l wIs (tokenP l 1 s)))
    have c4w:=@Touch.w _ _ _ _ _ _ _ (first_t hl o (needP l wIs (tokenP l 1 s)))
    cases hf:firstR l (needP l wIs (tokenP l 1 s)) with
    | none=>
      simp only [hf,Option.map_none,Option.getD_none,Option.isSome_none] at c4
      have c6:=@Touch.wx _ _ _ _ _ _ _ (expr_c hl o (needP l wIs (tokenP l 1 s)))
      have c6w:=@Touch.w _ _ _ _ _ _ _ (expr_c hl o (needP l wIs (tokenP l 1 s)))
      have c5:=@Touch.wx _ _ _ _ _ _ _ (need_t hl o wSemi (exprP l (needP l wIs (tokenP l 1 s))))
      have c5w:=@Touch.w _ _ _ _ _ _ _ (need_t hl o wSemi (exprP l (needP l wIs (tokenP l 1 s))))
      simp only [go_sem,hs,set_at ho,set_at_app ho,set_app_set ho,ho,take_no hs,c4,c5,c6,exV]
      simp [eqT,eqP,eqAt,eqFirst,hs,hf,encEq,ex0,dcells,go_sem]
    | some r=>
      simp only [hf,Option.map_some,Option.getD_some,Option.isSome_some] at c4
      have c6:=@Touch.wx _ _ _ _ _ _ _ (expr_c hl o r.2)
      have c6w:=@Touch.w _ _ _ _ _ _ _ (expr_c hl o r.2)
      have c5:=@Touch.wx _ _ _ _ _ _ _ (need_t hl o wSemi (exprP l r.2))
      have c5w:=@Touch.w _ _ _ _ _ _ _ (need_t hl o wSemi (exprP l r.2))
      simp only [go_sem,hs,set_at ho,set_at_app ho,set_app_set ho,ho,take_no hs,c4,c5,c6,exV]
      simp [eqT,eqP,eqAt,eqFirst,hs,hf,encEq,ex0,dcells,go_sem]
def ownsF (l:List Tok):Nat→PS→List Var × PS
  | 0,s=>([],s)
  | n + 1,s=>if !s.bad && !seesP l wLet s then (ownT l s :: (ownsF l n (ownP l s)).1,(ownsF l n (ownP l s)).2) else ([],s)
theorem rem_own (l:List Tok) (s:PS):rem l (ownP l s) ≤ rem l (tokenP l 1 s):=by
  have h1:=rem_decl l s
  have h2:=rem_need l (ownEnd l (declP l s)) wSemi
  have h3:rem l (ownEnd l (declP l s)) ≤ rem l (declP l s):=by
    unfold ownEnd
    split
    · exact Nat.le_trans (rem_token _ _ _) (rem_takeP _ _ _)
    · split
      · exact Nat.le_trans (rem_token _ _ _) (rem_takeP _ _ _)
      · exact Nat.le_refl _
  unfold ownP
  omega
theorem ownsF_more (l:List Tok):∀ n m s,rem l s < n→rem l s < m→ownsF l n s = ownsF l m s:=by
  intro n
  induction n with
  | zero=>intro m s h;omega
  | succ n ih=>
    intro m s h h'
    cases m with
    | zero=>omega
    | succ m=>
      simp only [ownsF]
      split
      · rename_i hs
        have h1:=rem_own l s
        have h2:=rem_name (l:=l) (s:=s) (k:=1) (by simp at hs;exact hs.1)
        rw [ih m _ (by omega) (by omega)]
      · rfl
def ownsP (l:List Tok) (s:PS):List Var × PS:=ownsF l (rem l s + 1) s
theorem ownsP_eq (l:List Tok) (s:PS):ownsP l s = if !s.bad && !seesP l wLet s then (ownT l s :: (ownsP l (ownP l s)).1,(ownsP l (ownP l s)).2) else ([],s):=by
  unfold ownsP
  rw [ownsF]
  split
  · rename_i hs
    have h1:=rem_own l s
    have h2:=rem_name (l:=l) (s:=s) (k:=1) (by simp at hs;exact hs.1)
    rw [ownsF_more l (rem l s) _ _ (by omega) (Nat.lt_succ_self _)]
  · rfl
structure HeadR where
  name:Str
  ins:List Var
  outs:List Var
  locals:List Var
  to:PS
def headR (l:List Tok) (s:PS):HeadR:=
  let s1:=needP l wNode s
  let s2:=tokenP l 1 s1
  let s3:=needP l wReturns (declsP l s2)
  let s4:=needP l wSemi (declsP l s3)
  let q:=if seesP l wVar s4 then (ownT l (takeP l wVar s4) :: (ownsP l (ownP l (takeP l wVar s4))).1,(ownsP l (ownP l (takeP l wVar s4))).2) else ([],s4)
  ⟨nameT l s1,declsT l s2,declsT l s3,q.1,needP l wLet q.2⟩
def headV (r:HeadR) (v:HV):HV:=.agg [.d (.str r.name),.d (.sl (r.ins.map encVar)),.d (.sl (r.outs.map encVar)),v,.own [] .exact]
@[go_sem] theorem loose_tip (T:List Nat) (sz:Nat) (rows:List (List D)):HV.loose1 (.own rows (tipB true T sz)) = true:=(rfl)
@[go_sem] theorem half_tip (T:List Nat) (sz:Nat) (rows:List (List D)):half1 (.own rows (tipB true T sz)) = .d (.sl rows):=(rfl)
@[go_sem] theorem minLow_same (a:Nat):minLow (some a) (some a) = some a:=by simp [minLow]
@[go_sem] theorem minLow_succ (a:Nat):minLow (some (a + 1)) (some a) = some a:=by simp [minLow]
def HdI (l:List Tok) (o:Nat) (n i u:D) (r:List Var × PS) (B:List Obj) (T:List Nat) (m:Nat) (e:Env) (H:St):Prop:=
  ∃ (acc:List Var) (s:PS),m = rem l s ∧ acc.length + rem l s ≤ l.length + 2 ∧ r = (acc ++ (ownsP l s).1,(ownsP l s).2) ∧
    e = [(0,.ref o 0),(2,.ref B.length 0),(3,.ref (B.length + 1) 0)] ∧
    H = ⟨B.set o (PC l s) ++ [.cells [.d (.str []),.own [] .exact,.own [] .exact,.own [] .exact,.own [] .exact],
      .cells [.d n,.d i,.d u,.own (acc.map encVar) (tipB true T 4),.own [] .exact]],tipC true T acc.length,some (B.length + 1)⟩
theorem head_t {l:List Tok} (hl:l.length ≤ 1000000) (o:Nat) (s:PS):∃ v:HV,(v = .d (.sl ((headR l s).locals.map encVar)) ∨ (v = .own [] .exact ∧ (headR l s).locals = [])) ∧ Touch 25 [.ref o 0] l o s (headV (headR l s) v) (headR l s).to:=by
  have eh:headR l s = headR l s:=rfl
  conv at eh=>rhs;unfold headR
  dsimp only at eh
  generalize headR l s = r at *
  generalize e1:needP l wNode s = s1 at *
  generalize e2:tokenP l 1 s1 = s2 at *
  generalize e3:needP l wReturns (declsP l s2) = s3 at *
  generalize e4:needP l wSemi (declsP l s3) = s4 at *
  refine ⟨if seesP l wVar s4 then .d (.sl (r.locals.map encVar)) else .own [] .exact,?_,?_⟩
  · by_cases h:seesP l wVar s4 = true
    · exact .inl (by rw [if_pos h])
    · exact .inr ⟨by rw [if_neg h],by rw [eh];simp [h]⟩
  intro B T lw ho
  refine calls_of2 rfl f25 ?_
  have c1:=@Touch.wx _ _ _ _ _ _ _ (need_t hl o wNode s)
  have c1w:=@Touch.w _ _ _ _ _ _ _ (need_t hl o wNode s)
  have c2:=@Touch.wx _ _ _ _ _ _ _ (name_t hl o s1)
  have c2w:=@Touch.w _ _ _ _ _ _ _ (name_t hl o s1)
  have c3:=@Touch.wx _ _ _ _ _ _ _ (decls_t hl o s2)
  have c3w:=@Touch.w _ _ _ _ _ _ _ (decls_t hl o s2)
  have c4:=@Touch.wx _ _ _ _ _ _ _ (need_t hl o wReturns (declsP l s2))
  have c4w:=@Touch.w _ _ _ _ _ _ _ (need_t hl o wReturns (declsP l s2))
  have c5:=@Touch.wx _ _ _ _ _ _ _ (decls_t hl o s3)
  have c5w:=@Touch.w _ _ _ _ _ _ _ (decls_t hl o s3)
  have c6:=@Touch.wx _ _ _ _ _ _ _ (need_t hl o wSemi (declsP l s3))
  have c6w:=@Touch.w _ _ _ _ _ _ _ (need_t hl o wSemi (declsP l s3))
  have c7:=@Touch.wx _ _ _ _ _ _ _ (take_t hl o wVar s4)
  have c7w:=@Touch.w _ _ _ _ _ _ _ (take_t hl o wVar s4)
  simp only [e1,e2,e3,e4] at c1 c2 c4 c6
  simp only [go_sem,c25,set_at ho,set_at_app ho,set_app_set ho,ho,c1,c2,c3,c4,c5,c6,c7]
  refine WG_intro (fun hs=>?_) fun hs=>?_
  · have c8:=@Touch.wx _ _ _ _ _ _ _ (own_t hl o (takeP l wVar s4))
    have c8w:=@Touch.w _ _ _ _ _ _ _ (own_t hl o (takeP l wVar s4))
    rw [hs] at eh ⊢
    have hap0:∀ (B:List Obj) (lw:Option Nat) (r:List D),appendV ⟨B,T,lw⟩ 4 (.own [] .exact) [r] = some (.own [r] (tipB true T 4),⟨B,tipC true T 1,lw⟩):=by
      intro B lw r
      have:=appendV_tip (B:=B) (T:=T) (lw:=lw) (sz:=4) (f:=false) (rows:=[]) (ys:=[r]) (by simp) rfl (by simp [roomN])
      exact this
    simp only [go_sem,hs,set_at ho,set_at_app ho,set_app_set ho,ho,c8,encVar,hap0]
    refine loop_I (HdI l o (.str (nameT l s1)) (.sl ((declsT l s2).map encVar)) (.sl ((declsT l s3).map encVar)) (ownT l (takeP l wVar s4) :: (ownsP l (ownP l (takeP l wVar s4))).1,(ownsP l (ownP l (takeP l wVar s4))).2) B T)
      (rem l (ownP l (takeP l wVar s4))) ⟨[ownT l (takeP l wVar s4)],_,rfl,?_,rfl,rfl,rfl⟩ ?_
    · have:=rem_le l (ownP l (takeP l wVar s4));simp;omega
    clear c1 c1w c2 c2w c3 c3w c4 c4w c5 c5w c6 c6w c7 c7w c8 c8w
    rintro m e H ⟨acc,s5,rfl,hacc,hr,rfl,rfl⟩
    rw [ownsP_eq l s5] at hr
    have hfin:(!s5.bad && !seesP l wLet s5) = false→r = ⟨nameT l s1,declsT l s2,declsT l s3,acc,needP l wLet s5⟩:=by
      intro h
      rw [if_neg (by simp [h])] at hr
      simp only [List.append_nil,Prod.mk.injEq] at hr
      rw [eh];simp [hr]
    cases hb:s5.bad with
    | true=>
      have:=hfin (by simp [hb])
      have c8:=@Touch.wx _ _ _ _ _ _ _ (need_t hl o wLet s5)
      have c8w:=@Touch.w _ _ _ _ _ _ _ (need_t hl o wLet s5)
      simp only [go_sem,c25l0,set_at ho,set_at_app ho,set_app_set ho,ho,cellsPC,hb,c8]
      rw [this]
      simp [headV,go_sem]
    | false=>
      have c7:=@Touch.wx _ _ _ _ _ _ _ (sees_t l o wLet s5)
      have c7w:=@Touch.w _ _ _ _ _ _ _ (sees_t l o wLet s5)
      simp only [go_sem,c25l0,set_at ho,set_at_app ho,set_app_set ho,ho,cellsPC,hb,c7]
      refine WG_intro (fun hs2=>?_) fun hs2=>?_
      · have:=hfin (by simp [hs2])
        have c8:=@Touch.wx _ _ _ _ _ _ _ (need_t hl o wLet s5)
        have c8w:=@Touch.w _ _ _ _ _ _ _ (need_t hl o wLet s5)
        simp only [go_sem,hs2,set_at ho,set_at_app ho,set_app_set ho,ho,c8]
        rw [this]
        simp [headV,go_sem]
      · rw [if_pos (by simp [hb,hs2])] at hr
        have c8:=@Touch.wx _ _ _ _ _ _ _ (own_t hl o s5)
        have c8w:=@Touch.w _ _ _ _ _ _ _ (own_t hl o s5)
        have h1:=rem_own l s5
        have h2:=rem_name (l:=l) (s:=s5) (k:=1) hb
        have hap:∀ (B:List Obj) (lw:Option Nat) (r:List D),appendV ⟨B,tipC true T acc.length,lw⟩ 4 (.own (acc.map encVar) (tipB true T 4)) [r] = some (.own (acc.map encVar ++ [r]) (tipB true T 4),⟨B,tipC true T (acc.length + 1),lw⟩):=by
          intro B lw r
          have:=appendV_tip (B:=B) (T:=T) (lw:=lw) (sz:=4) (f:=true) (rows:=acc.map encVar) (ys:=[r]) (by simp) (enc_vars_all acc) (by simp [roomN];omega)
          simpa using this
        simp only [go_sem,hs2,set_at ho,set_at_app ho,set_app_set ho,ho,c8,encVar,hap]
        refine ⟨_,by omega,acc ++ [ownT l s5],ownP l s5,rfl,by simp;omega,by rw [hr];simp,?_,?_⟩
        · rfl
        · simp [encVar]
  · have c8:=@Touch.wx _ _ _ _ _ _ _ (need_t hl o wLet s4)
    have c8w:=@Touch.w _ _ _ _ _ _ _ (need_t hl o wLet s4)
    rw [hs] at eh ⊢
    simp only [go_sem,hs,set_at ho,set_at_app ho,set_app_set ho,ho,c8,take_no hs]
    rw [eh]
    simp [headV,tipB,tipC]
end Am
