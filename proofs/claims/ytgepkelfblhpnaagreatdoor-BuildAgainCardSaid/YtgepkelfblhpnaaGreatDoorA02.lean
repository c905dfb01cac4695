/- A part of the proof of BuildAgain: no condition of its own. Whence: AmComp, AmRel, AmRel2. -/
import Derived.Test.YtgepkelfblhpnaaGreatDoorA01
import GoSem.Core.Region
import GoSem.Core.Lib
import GoSem.Core.Layout
import GoSem.Core.Machine
import GoSem.Dispatch
import Derived.Calls
import Derived.Laws.World
import Derived.Laws.Cells
import Derived.Laws.Tables
import Derived.Laws.CopyRow
import Derived.Laws.Rows
set_option linter.all false
namespace Am
open Go
def zLeaf:Value→Option HV
  | .bool b=>some (.d (.bool b))
  | .int k n=>some (.d (.int k n))
  | .string s=>some (.d (.str s.data.toList))
  | .pointer none=>some (.d .nilp)
  | .slice none 0 0=>some (.own [] .exact)
  | .map none=>some (.d .nilm)
  | .nilFunc=>some (.d .nilf)
  | _=>none
def zVal:Value→Option HV
  | .agg cs=>(cs.toList.mapM zLeaf).map .agg
  | .tuple vs=>if vs.isEmpty then some undefV else none
  | v=>zLeaf v
def HO.slots:HO→List Nat
  | .slot n=>[n]
  | _=>[]
def optSlots:Option HO→List Nat
  | some x=>x.slots
  | none=>[]
def HOp.slots:HOp→List Nat
  | .move x | .box _ x | .load _ _ x | .nilCheck x | .un _ x | .convInt _ x | .convBS x | .convSB x | .convSS x | .fieldAddr _ x | .field _ _ _ x
  | .rangeStr x | .nextStr x | .extract x _ | .len _ x=>x.slots
  | .nilTok | .alloc _ | .lenC _=>[]
  | .makeMap _ _ h=>optSlots h
  | .pick a b c=>a.slots ++ b.slots ++ c.slots
  | .build _ ps=>ps.flatMap fun p=>p.2.2.slots
  | .buildSlice _ ps=>ps.flatMap HO.slots
  | .store _ a b | .bin _ a b | .binB _ a b | .binP _ a b | .eqAgg _ _ a b | .makeSlice _ _ a b | .indexAddrArr _ _ a b | .indexAddrSl _ a b | .indexStr a b | .lookup _ _ _ _ a b _ | .append _ a b | .copy _ a b | .delete _ _ a b=>a.slots ++ b.slots
  | .makeFunc _ a b=>a.flatMap HO.slots ++ b.flatMap HO.slots
  | .sliceStr x l h | .sliceSl _ x l h | .sliceArr _ _ x l h=>x.slots ++ optSlots l ++ optSlots h
  | .mapUpdate _ _ _ a b c | .entryStore _ a b c=>a.slots ++ b.slots ++ c.slots
  | .mapEntry _ _ _ _ a b=>a.slots ++ b.slots
  | .callF _ as=>as.flatMap HO.slots
  | .callV x as=>x.slots ++ as.flatMap HO.slots
  | .minmax _ xs=>xs.flatMap HO.slots
section
variable (P:Program) (gt:Nat→Option (List D))
def tSize (t:TypeId):Option Nat:=
  match P.info? t with
  | some i=>if i.size = 0 then none else some i.size
  | none=>none
def tAgg (t:TypeId):Option Bool:=
  match P.underlying t with
  | some (.struct _) | some (.array _ _)=>some true
  | some _=>some false
  | none=>none
def tZero (t:TypeId):Option (List HV):=
  match P.info? t with
  | some i=>match i.zero with
    | some z=>(zVal z).map HV.cells
    | none=>none
  | none=>none
def tZeroE (t:TypeId):Option (Bool × List D):=
  match P.info? t with
  | some i=>match i.zero with
    | some z=>match zVal z with
      | some q=>(toDs q.cells).map fun c=>(q.isAgg,c)
      | none=>none
    | none=>none
  | none=>none
def cO:Operand→Option HO
  | .tmp t=>some (.slot t)
  | .const v=>(zVal v).map .const
  | .global g=>(gt g).map .gl
  | .func f=>some (.const (.fn f [] []))
def cOpt:Option Operand→Option (Option HO)
  | none=>some none
  | some x=>(cO gt x).map some
def flatFs (go:TypeId→Option (List LK)):List Field→Nat→Option (List LK)
  | [],_=>some []
  | f :: fs,off=>if f.name != "_" && f.offset == off then
      match go f.type with
      | some n=>if tSize P f.type = some n.length then (flatFs go fs (off + n.length)).map (n ++ ·) else none
      | none=>none
    else none
def flatN:Nat→TypeId→Option (List LK)
  | 0,_=>none
  | d + 1,t=>match P.underlying t with
    | some .bool=>some [.b]
    | some (.int _)=>some [.i]
    | some .string=>some [.s]
    | some (.struct fs)=>if P.stoodInHeld t then none else flatFs P (flatN d) fs.toList 0
    | _=>none
def cCall (c:Call):Option HOp:=
  match c.callee with
  | .value (.func f)=>match c.args.toList.mapM (cO gt) with
    | some as=>some (.callF f as)
    | none=>none
  | .value x=>match cO gt x,c.args.toList.mapM (cO gt) with
    | some y,some as=>some (.callV y as)
    | _,_=>none
  | .invoke _ _=>none
  | .builtin b=>match b,c.args.toList.mapM (cO gt),c.argTypes.toList with
    | .len,some [x],t :: _=>match P.underlying t with
      | some (.array n _)=>some (.lenC n)
      | some (.pointer arr)=>match P.underlying arr with
        | some (.array n _)=>some (.lenC n)
        | _=>none
      | some .string=>some (.len .s x)
      | some (.slice _)=>some (.len .i x)
      | some (.map _ _)=>some (.len .b x)
      | _=>none
    | .append,some [x,y],[s,u]=>if s = u then match P.underlying s with
      | some (.slice e)=>match tSize P e,P.info? e,tZero P e with
        | some sz,some i,some z=>if i.bytes ≤ 65536 ∧ 1 ≤ i.bytes ∧ z.length = sz then some (.append sz x y) else none
        | _,_,_=>none
      | _=>none
      else none
    | .copy,some [x,y],s :: _=>match P.underlying s with
      | some (.slice e)=>(tSize P e).map fun sz=>.copy sz x y
      | _=>none
    | .delete,some [x,y],s :: _=>match P.underlying s with
      | some (.map k _)=>match tAgg P k,flatN P 20 k with
        | some a,some n=>some (.delete a n x y)
        | _,_=>none
      | _=>none
    | .min,some xs,_=>some (.minmax false xs)
    | .max,some xs,_=>some (.minmax true xs)
    | _,_,_=>none
def cOp:Op→Option HOp
  | .move x | .assign x=>(cO gt x).map .move
  | .pick c a b=>match cO gt c,cO gt a,cO gt b with
    | some c,some a,some b=>some (.pick c a b)
    | _,_,_=>none
  | .alloc t=>(tZero P t).map .alloc
  | .box t x=>match tSize P t,cO gt x with
    | some n,some x=>some (.box n x)
    | _,_=>none
  | .build t ps=>match P.underlying t,tZero P t with
    | some (.struct fs),some z=>if !fs.toList.all fun f=>(P.info? f.type).isSome then none else
      (ps.toList.mapM fun (p:Nat × Operand)=>match (fs[p.1]?:Option Field),cO gt p.2 with
        | some f,some x=>(P.info? f.type).map fun (i:TypeInfo)=>(f.offset,i.size,x)
        | _,_=>none).map (.build z)
    | _,_=>none
  | .buildSlice t len ps=>match P.underlying t with
    | some (.slice e)=>match tSize P e,ps.toList.mapM (fun (p:Nat × Operand)=>cO gt p.2),tZero P e with
      | some n,some xs,some _=>if ps.toList.map (·.1) = List.range len ∧ len * n ≤ 65536 then some (.buildSlice n xs) else none
      | _,_,_=>none
    | _=>none
  | .insert _ _ _ _=>none
  | .load t x=>match tSize P t,tAgg P t,cO gt x with
    | some n,some a,some x=>some (.load n a x)
    | _,_,_=>none
  | .store t x v=>match tSize P t,cO gt x,cO gt v with
    | some n,some x,some v=>some (.store n x v)
    | _,_,_=>none
  | .nilCheck x=>(cO gt x).map .nilCheck
  | .binOp op t x y _=>match cO gt x,cO gt y,P.underlying t with
    | some x,some y,some (.struct _)=>if P.eqGuardType P.depth t then none else
        match op,flatN P 20 t with
        | .eql,some n=>some (.eqAgg false n x y)
        | .neq,some n=>some (.eqAgg true n x y)
        | _,_=>none
    | some x,some y,some (.int _) | some x,some y,some .string=>some (.bin op x y)
    | some x,some y,some .bool=>match op with
      | .eql=>some (.binB false x y)
      | .neq=>some (.binB true x y)
      | _=>none
    | some x,some y,some (.pointer _)=>match op with
      | .eql=>some (.binP false x y)
      | .neq=>some (.binP true x y)
      | _=>none
    | _,_,_=>none
  | .unOp op _ x=>(cO gt x).map (.un op)
  | .convert s t x=>match P.underlying s,P.underlying t,cO gt x with
    | some (.int _),some (.int k),some x=>some (.convInt k x)
    | some (.slice e),some .string,some x=>match P.underlying e with
      | some (.int .u8)=>some (.convBS x)
      | _=>none
    | some .string,some (.slice e),some x=>match P.underlying e with
      | some (.int .u8)=>some (.convSB x)
      | _=>none
    | some (.slice e),some (.slice _),some x=>match P.underlying e with
      | some (.int .u8)=>if s = t then some (.convSS x) else none
      | _=>none
    | _,_,_=>none
  | .makeFunc (.func f) a b=>match a.toList.mapM (cO gt),b.toList.mapM (cO gt) with
    | some a,some b=>some (.makeFunc f a b)
    | _,_=>none
  | .makeMap t r=>match P.underlying t,cOpt gt r with
    | some (.map k v),some r=>match tAgg P k,tAgg P v with
      | some ka,some va=>some (.makeMap ka va r)
      | _,_=>none
    | _,_=>none
  | .makeSlice t l c=>match P.underlying t,cO gt l,cO gt c with
    | some (.slice e),some l,some c=>match tSize P e,tZero P e,P.info? e with
      | some n,some z,some i=>if i.bytes ≤ 65536 then some (.makeSlice n z l c) else none
      | _,_,_=>none
    | _,_,_=>none
  | .slice t x lo hi none=>match P.underlying t,cO gt x,cOpt gt lo,cOpt gt hi with
    | some .string,some x,some lo,some hi=>some (.sliceStr x lo hi)
    | some (.slice e),some x,some lo,some hi=>(tSize P e).map fun n=>.sliceSl n x lo hi
    | some (.array m e),some x,some lo,some hi=>(tSize P e).map fun n=>.sliceArr m n x lo hi
    | _,_,_,_=>none
  | .fieldAddr s x f=>match P.underlying s,cO gt x with
    | some (.struct fs),some x=>match (fs[f]?:Option Field) with
      | some f=>(tSize P f.type).map fun _=>.fieldAddr f.offset x
      | none=>none
    | _,_=>none
  | .field s x f=>match P.underlying s,cO gt x with
    | some (.struct fs),some x=>match (fs[f]?:Option Field) with
      | some f=>match tSize P f.type,tAgg P f.type with
        | some n,some a=>some (.field f.offset n a x)
        | _,_=>none
      | none=>none
    | _,_=>none
  | .indexAddr t x i=>match P.underlying t,cO gt x,cO gt i with
    | some (.array m e),some x,some i=>(tSize P e).map fun n=>.indexAddrArr m n x i
    | some (.slice e),some x,some i=>(tSize P e).map fun n=>.indexAddrSl n x i
    | _,_,_=>none
  | .index t x i=>match P.underlying t,cO gt x,cO gt i with
    | some .string,some x,some i=>some (.indexStr x i)
    | _,_,_=>none
  | .lookup t m k ok=>match P.underlying t,cO gt m,cO gt k with
    | some (.map kt vt),some m,some k=>match tAgg P kt,tZeroE P vt with
      | some ka,some (va,z)=>match flatN P 20 kt with | some n=>some (.lookup z va ka n m k ok) | none=>none
      | _,_=>none
    | _,_,_=>none
  | .mapUpdate t m k v=>match P.underlying t,cO gt m,cO gt k,cO gt v with
    | some (.map kt vt),some m,some k,some v=>match tAgg P kt,tAgg P vt with
      | some ka,some va=>match flatN P 20 kt with | some n=>some (.mapUpdate ka va n m k v) | none=>none
      | _,_=>none
    | _,_,_,_=>none
  | .mapEntry t m k=>match P.underlying t,cO gt m,cO gt k with
    | some (.map kt vt),some m,some k=>match tAgg P kt,tZeroE P vt with
      | some ka,some (va,z)=>match flatN P 20 kt with | some n=>some (.mapEntry z va ka n m k) | none=>none
      | _,_=>none
    | _,_,_=>none
  | .entryStore t m s v=>match P.underlying t,cO gt m,cO gt s,cO gt v with
    | some (.map _ vt),some m,some s,some v=>(tAgg P vt).map fun va=>.entryStore va m s v
    | _,_,_,_=>none
  | .range t x=>match P.underlying t,cO gt x with
    | some .string,some x=>some (.rangeStr x)
    | _,_=>none
  | .next it true=>(cO gt it).map .nextStr
  | .extract x i=>(cO gt x).map (.extract · i)
  | .call c=>cCall P gt c
  | _=>none
def guardSlot (ops:Array Oper):Option (Nat × Bool)→Option (Option (Nat × Bool))
  | none=>some none
  | some (j,b)=>match ops[j]? with
    | some o=>o.dst.map fun d=>some (d,b)
    | none=>none
def ordered (bf:Array Nat) (i j:Nat):Bool:=(bf.getD (max i j) 0).testBit (min i j)
def unOf (bf:Array Nat) (hs:List HOp) (j:Nat) (h:HOp):List Nat:=
  if h.plain || h.isAlloc then [] else
  (hs.zipIdx.filter fun p=>p.2 != j && !p.1.plain && !p.1.isAlloc && (p.1.quiet != h.quiet) && !ordered bf p.2 j).map (·.2)
def HOper.names (o:HOper):List Nat:=o.dst.toList ++ (o.op.slots ++ (match o.guard with | some g=>[g.1] | none=>[]))
def HOp.eff (o:HOp):Bool:=!o.plain && !o.quiet && !o.isAlloc
def pairOk (bf:Array Nat) (p q:HOper × Nat):Bool:=
  p.2 == q.2 ||
  ((!(p.1.op.eff && q.1.op.eff) || ordered bf p.2 q.2) &&
  (match p.1.dst with | some d=>!q.1.names.contains d || (ordered bf p.2 q.2 && (!p.1.op.isAlloc || p.2 < q.2)) | none=>true) &&
  (!(p.1.op.quiet && q.1.op.eff && !ordered bf p.2 q.2) || (p.1.un.contains q.2 && q.1.un.contains p.2)))
def drawOk (ops:Array Oper) (hops:List HOper):Bool:=
  let bf:=Region.before ops
  P.follows .mixedOrders &&
  (ops.toList.zipIdx.all fun p=>p.1.after.toList.all fun e=>!Region.binds .any e || e.on < p.2) &&
  (hops.zipIdx.all fun p=>hops.zipIdx.all fun q=>pairOk bf p q) &&
  hops.all fun o=>match o.op with
    | .alloc z=>o.guard.isNone && o.dst.isSome && z.all fun v=>!v.loose1
    | _=>true
def cRegion (ops:Array Oper) (draw:Bool):Option HC:=
  match ops.toList.mapM fun o=>cOp P gt o.op,ops.toList.mapM fun o=>guardSlot ops o.guard with
  | some hs,some gs=>
    let bf:=Region.before ops
    let hops:List HOper:=((ops.toList.zip hs).zip gs).zipIdx.map fun p=>{ dst:=p.1.1.1.dst,op:=p.1.1.2,guard:=p.1.2,un:=if draw then unOf bf hs p.2 p.1.1.2 else [] }
    if draw && !drawOk P ops hops then none else some (.region draw hops [])
  | _,_=>none
def cCode:Code→Option HC
  | .skip=>some .skip
  | .region _ ops draw=>cRegion P gt ops draw
  | .seq a b=>match cCode a,cCode b with
    | some x,some y=>some (.seq x y)
    | _,_=>none
  | .cond c a b=>match cO gt c,cCode a,cCode b with
    | some c,some x,some y=>some (.cond c x y)
    | _,_,_=>none
  | .block id b=>(cCode b).map (.block id [])
  | .loop b=>(cCode b).map (.loop [])
  | .scope b=>(cCode b).map .scope
  | .label l=>some (.label l)
  | .exit id=>some (.exit id)
  | .ret=>some .ret
  | _=>none
def cRes:ResultVar→Option HRes
  | .tmp t=>some (.slot t)
  | .cell a t=>match tSize P t,tAgg P t with
    | some n,some g=>some (.cell a n g)
    | _,_=>none
def cFun (f:Func):Option HFun:=
  match f.body with
  | some c=>match cCode P gt c,f.results.toList.mapM (cRes P) with
    | some code,some res=>some { code,res,open_:=[],pol:=.shut }
    | _,_=>none
  | none=>none
end
end Am
namespace Am
open Go
structure Lay where
  I:Nat→Nat
  φ:List (Option Nat)
  τ:List (Option (Nat × Nat × Nat))
  pc:Nat→List HV
  base:Nat
inductive DRel (I:Nat→Nat) (w:World):D→Value→Prop
  | bool (b:Bool):DRel I w (.bool b) (.bool b)
  | int (k:IntKind) (n:Int):DRel I w (.int k n) (.int k n)
  | str (s:List UInt8):DRel I w (.str s) (.string ⟨s.toArray⟩)
  | nilp:DRel I w .nilp (.pointer none)
  | nilm:DRel I w .nilm (.map none)
  | nilf:DRel I w .nilf .nilFunc
  | sl0 (a:Option Addr) (cap:Nat):DRel I w (.sl []) (.slice a 0 cap)
  | sl (rows:List (List D)) (b off n cap sz:Nat) (cell:Nat→Value) :
      n = rows.length→n ≤ cap→(∀ r ∈ rows,r.length = sz)→off + rows.flatten.length ≤ I b →
      (∀ k x,rows.flatten[k]? = some x→w.cell? ⟨b,off + k,none⟩ = some (cell k)) →
      (∀ k x,rows.flatten[k]? = some x→DRel I w x (cell k)) →
      DRel I w (.sl rows) (.slice (some ⟨b,off,none⟩) n cap)
def CellsRel (I:Nat→Nat) (w:World) (b off:Nat) (cs:List D):Prop:=
  off + cs.length ≤ I b ∧ ∀ k x,cs[k]? = some x→∃ v,w.cell? ⟨b,off + k,none⟩ = some v ∧ DRel I w x v
theorem CellsRel.fn {I:Nat→Nat} {w:World} {b off:Nat} {cs:List D} (h:CellsRel I w b off cs) :
    ∃ cell:Nat→Value,(∀ k x,cs[k]? = some x→w.cell? ⟨b,off + k,none⟩ = some (cell k)) ∧ (∀ k x,cs[k]? = some x→DRel I w x (cell k)):=by
  refine ⟨fun k=>(w.cell? ⟨b,off + k,none⟩).getD undef,fun k x hx=>?_,fun k x hx=>?_⟩
  · obtain ⟨v,hv,_⟩:=h.2 k x hx
    simp [hv]
  · obtain ⟨v,hv,hd⟩:=h.2 k x hx
    simpa [hv] using hd
theorem drel_sl {I:Nat→Nat} {w:World} {rows:List (List D)} {v:Value} :
    DRel I w (.sl rows) v ↔ (rows = [] ∧ ∃ a cap,v = .slice a 0 cap) ∨
      ∃ b off cap sz,v = .slice (some ⟨b,off,none⟩) rows.length cap ∧ rows.length ≤ cap ∧ (∀ r ∈ rows,r.length = sz) ∧ CellsRel I w b off rows.flatten:=by
  constructor
  · intro h
    cases h with
    | sl0 a cap=>exact .inl ⟨rfl,a,cap,rfl⟩
    | sl rows b off n cap sz cell h1 h2 h3 h4 h5 h6=>
      subst h1
      exact .inr ⟨b,off,cap,sz,rfl,h2,h3,h4,fun k x hx=>⟨_,h5 k x hx,h6 k x hx⟩⟩
  · rintro (⟨rfl,a,cap,rfl⟩ | ⟨b,off,cap,sz,rfl,h1,h2,h3⟩)
    · exact .sl0 a cap
    · obtain ⟨cell,h4,h5⟩:=h3.fn
      exact .sl rows b off _ cap sz cell rfl h1 h2 h3.1 h4 h5
structure Grows (I:Nat→Nat) (w:World) (I':Nat→Nat) (w':World):Prop where
  mono:∀ b,I b ≤ I' b
  keep:∀ b off,off < I b→w'.cell? ⟨b,off,none⟩ = w.cell? ⟨b,off,none⟩
theorem Grows.refl (I:Nat→Nat) (w:World):Grows I w I w:=⟨fun _=>Nat.le_refl _,fun _ _ _=>rfl⟩
theorem Grows.trans {I I' I'':Nat→Nat} {w w' w'':World} (h:Grows I w I' w') (h':Grows I' w' I'' w''):Grows I w I'' w'':=
  ⟨fun b=>Nat.le_trans (h.mono b) (h'.mono b),fun b off ho=>by rw [h'.keep b off (Nat.lt_of_lt_of_le ho (h.mono b)),h.keep b off ho]⟩
theorem lt_of_getElem? {α:Type} {l:List α} {k:Nat} {x:α} (h:l[k]? = some x):k < l.length:=(List.getElem?_eq_some_iff.1 h).1
theorem DRel.grow {I I':Nat→Nat} {w w':World} (g:Grows I w I' w') {x:D} {v:Value} (h:DRel I w x v):DRel I' w' x v:=by
  induction h with
  | bool b=>exact .bool b
  | int k n=>exact .int k n
  | str s=>exact .str s
  | nilp=>exact .nilp
  | nilm=>exact .nilm
  | nilf=>exact .nilf
  | sl0 a cap=>exact .sl0 a cap
  | sl rows b off n cap sz cell h1 h2 h3 h4 h5 _ ih=>
    refine .sl rows b off n cap sz cell h1 h2 h3 (Nat.le_trans h4 (g.mono b)) (fun k x hx=>?_) ih
    rw [g.keep b (off + k) (by have:=lt_of_getElem? hx;omega)]
    exact h5 k x hx
theorem CellsRel.grow {I I':Nat→Nat} {w w':World} (g:Grows I w I' w') {b off:Nat} {cs:List D} (h:CellsRel I w b off cs):CellsRel I' w' b off cs:=by
  refine ⟨Nat.le_trans h.1 (g.mono b),fun k x hx=>?_⟩
  obtain ⟨v,hv,hd⟩:=h.2 k x hx
  exact ⟨v,by rw [g.keep b (off + k) (by have:=lt_of_getElem? hx;have:=h.1;omega)];exact hv,hd.grow g⟩
theorem CellsRel.drop {I:Nat→Nat} {w:World} {b off:Nat} {cs:List D} (h:CellsRel I w b off cs) (n:Nat) (hn:n ≤ cs.length):CellsRel I w b (off + n) (cs.drop n):=by
  refine ⟨by have:=h.1;simp only [List.length_drop];omega,fun k x hx=>?_⟩
  rw [List.getElem?_drop] at hx
  obtain ⟨v,hv,hd⟩:=h.2 _ x hx
  exact ⟨v,by rw [Nat.add_assoc];exact hv,hd⟩
theorem CellsRel.take {I:Nat→Nat} {w:World} {b off:Nat} {cs:List D} (h:CellsRel I w b off cs) (n:Nat):CellsRel I w b off (cs.take n):=by
  refine ⟨by have:=h.1;simp only [List.length_take];omega,fun k x hx=>?_⟩
  rw [List.getElem?_take] at hx
  split at hx
  · exact h.2 k x hx
  · cases hx
def OwnOk (L:Lay) (tips:List Nat) (n:Nat) (v:Value):Tip→Prop
  | .exact=>∃ a:Option Addr,v = .slice a n n ∧ ∀ p,a = some p→L.base ≤ p.block
  | .tok t s=>∃ k,tips[t]? = some k ∧ n ≤ k ∧ (k = n→∃ e,L.τ[t]? = some e ∧ match e with
      | none=>n = 0 ∧ ∃ a,v = .slice a 0 0
      | some (b,s',cap)=>s' = s ∧ s ≠ 0 ∧ v = .slice (some ⟨b,0,none⟩) n cap)
mutual
inductive VRel (L:Lay) (tips:List Nat) (w:World):HV→Value→Prop
  | d (x:D) (v:Value):DRel L.I w x v→VRel L tips w (.d x) v
  | own (rows:List (List D)) (t:Tip) (v:Value):DRel L.I w (.sl rows) v→OwnOk L tips rows.length v t→VRel L tips w (.own rows t) v
  | ref (o off b:Nat):L.φ[o]? = some (some b)→VRel L tips w (.ref o off) (.pointer (some ⟨b,off,none⟩))
  | row (o off len sz b cap:Nat):L.φ[o]? = some (some b)→len ≤ cap→VRel L tips w (.row o off len sz) (.slice (some ⟨b,off,none⟩) len cap)
  | map (o b:Nat):L.φ[o]? = some (some b)→VRel L tips w (.map o) (.map (some b))
  | iref (cells:List D) (b off:Nat):CellsRel L.I w b off cells→VRel L tips w (.iref cells) (.pointer (some ⟨b,off,none⟩))
  | fn (f:FuncId) (a b:List HV) (x y:List Value):VRels L tips w a x→VRels L tips w b y→VRel L tips w (.fn f a b) (.func (.func f) x.toArray y.toArray)
  | agg (cs:List HV) (vs:List Value):VRels L tips w cs vs→VRel L tips w (.agg cs) (.agg vs.toArray)
  | tup (cs:List HV) (vs:List Value):VRels L tips w cs vs→VRel L tips w (.tup cs) (.tuple vs.toArray)
inductive VRels (L:Lay) (tips:List Nat) (w:World):List HV→List Value→Prop
  | nil:VRels L tips w [] []
  | cons (c:HV) (v:Value) (cs:List HV) (vs:List Value):VRel L tips w c v→VRels L tips w cs vs→VRels L tips w (c :: cs) (v :: vs)
end
def EntryRel (I:Nat→Nat) (w:World) (isAgg:Bool) (cs:List D) (v:Value):Prop:=
  if isAgg then ∃ vs:List Value,v = .agg vs.toArray ∧ vs.length = cs.length ∧ ∀ (k:Nat) (x:D),cs[k]? = some x→∃ u,vs[k]? = some u ∧ DRel I w x u
  else ∃ x,cs = [x] ∧ DRel I w x v
def RowAt (w:World) (b:Nat) (cs:Array Value) (elem:TypeId):Prop:=∃ fz:Nat × Nat,w.heap[b]? = some (.cells cs elem fz) ∧ (fz = (0,0) ∨ cs.size ≤ fz.1)
theorem RowAt.of {w:World} {b:Nat} {cs:Array Value} {elem:TypeId} (h:w.heap[b]? = some (.cells cs elem)):RowAt w b cs elem:=⟨_,h,.inl rfl⟩
theorem RowAt.cell {w:World} {b:Nat} {cs:Array Value} {elem:TypeId} (h:RowAt w b cs elem) (j:Nat):w.cell? ⟨b,j,none⟩ = cs[j]?:=by
  obtain ⟨fz,h,_⟩:=h
  exact cell_of_row w b j cs elem fz h
theorem RowAt.move {w w':World} {b:Nat} {cs:Array Value} {elem:TypeId} (h:RowAt w b cs elem) (e:w'.heap[b]? = w.heap[b]?):RowAt w' b cs elem:=by
  obtain ⟨fz,h,h'⟩:=h
  exact ⟨fz,by rw [e];exact h,h'⟩
theorem tip_move {w w':World} {b n cap sz:Nat} {i i':Nat} (h:i = n * sz ∧ n ≤ cap ∧ ∃ cs elem,RowAt w b cs elem ∧ cs.size = cap * sz) (hi:i' = i) (e:w'.heap[b]? = w.heap[b]?) :
    i' = n * sz ∧ n ≤ cap ∧ ∃ cs elem,RowAt w' b cs elem ∧ cs.size = cap * sz:=by
  obtain ⟨h1,h2,cs,elem,h3,h4⟩:=h
  exact ⟨by rw [hi];exact h1,h2,cs,elem,h3.move e,h4⟩
theorem RowAt.lt {w:World} {b:Nat} {cs:Array Value} {elem:TypeId} (h:RowAt w b cs elem):b < w.heap.size:=by
  obtain ⟨fz,h,_⟩:=h
  exact (Array.getElem?_eq_some_iff.1 h).1
theorem RowAt.frozen {w:World} {b:Nat} {cs:Array Value} {elem:TypeId} (h:RowAt w b cs elem) (j:Nat) (hj:j < cs.size):w.frozen? ⟨b,j,none⟩ = false:=by
  obtain ⟨fz,h,h'⟩:=h
  simp only [World.frozen?,h]
  rcases h' with rfl | h'
  · simp
  · simp;omega
theorem RowAt.setRow {w:World} {b:Nat} {cs cs':Array Value} {elem:TypeId} (h:RowAt w b cs elem) (hs:cs'.size = cs.size):RowAt (w.setRow b cs') b cs' elem:=by
  obtain ⟨fz,h,h'⟩:=h
  exact ⟨fz,setRow_heap w b cs cs' elem fz h,by rw [hs];exact h'⟩
def ObjRel (L:Lay) (tips:List Nat) (w:World) (b:Nat):Obj→Prop
  | .cells c=>∃ vs elem,RowAt w b vs elem ∧ VRels L tips w c vs.toList
  | .map ka va es st=>∃ ents clock,w.heap[b]? = some (.map ents clock) ∧ (clock = st.2 ∧ ents.toList.map (·.born) = st.1) ∧ ents.size = es.length ∧
      ∀ (i:Nat) (k v:List D) (e:MapEntry),es[i]? = some (k,v)→ents[i]? = some e→EntryRel L.I w ka k e.key ∧ EntryRel L.I w va v e.val
  | .iter s pos=>w.heap[b]? = some (.stringIter ⟨s.toArray⟩ pos)
  | .dead=>True
def Owned (L:Lay) (b:Nat):Prop:=(∃ o:Nat,L.φ[o]? = some (some b)) ∨ ∃ t s c:Nat,L.τ[t]? = some (some (b,s,c))
structure Sim (gt:Nat→Option (List D)) (H:St) (L:Lay) (w:World):Prop where
  glob:∀ (g:Nat) (cs:List D),gt g = some cs→CellsRel L.I w g 0 cs
  nobj:L.φ.length = H.objs.length
  ntip:L.τ.length = H.tips.length
  obj:∀ (o b:Nat) (x:Obj),H.objs[o]? = some x→L.φ[o]? = some (some b)→ObjRel L H.tips w b x
  pend:∀ (o:Nat),L.φ[o]? = some none→H.objs[o]? = some (.cells (L.pc o)) ∧ ∀ v ∈ L.pc o,v.loose1 = false
  tip:∀ (t n b sz cap:Nat),H.tips[t]? = some n→L.τ[t]? = some (some (b,sz,cap)) →
    L.I b = n * sz ∧ n ≤ cap ∧ ∃ cs elem,RowAt w b cs elem ∧ cs.size = cap * sz
  tip0:∀ (t n:Nat),H.tips[t]? = some n→L.τ[t]? = some none→n = 0
  inj:∀ (i j b:Nat),L.φ[i]? = some (some b)→L.φ[j]? = some (some b)→i = j
  tinj:∀ (i j b s c s' c':Nat),L.τ[i]? = some (some (b,s,c))→L.τ[j]? = some (some (b,s',c'))→i = j
  disj:∀ (i j b s c:Nat),L.φ[i]? = some (some b)→L.τ[j]? = some (some (b,s,c))→False
  objI:∀ (o b:Nat),L.φ[o]? = some (some b)→L.I b = 0 ∧ b < w.heap.size
  fresh:∀ b,w.heap.size ≤ b→L.I b = 0
  young:∀ b,Owned L b→L.base ≤ b
  baseLe:L.base ≤ w.heap.size
structure Ext (n:Nat) (L:Lay) (tips:List Nat) (w:World) (L':Lay) (tips':List Nat) (w':World):Prop where
  grow:Grows L.I w L'.I w'
  φ:∀ o:Nat,o < n→L'.φ[o]? = L.φ[o]?
  tips:∀ (t k:Nat),tips[t]? = some k→∃ k',tips'[t]? = some k' ∧ k ≤ k' ∧ (k' = k→L'.τ[t]? = L.τ[t]?)
  size:w.heap.size ≤ w'.heap.size
  tape:w'.tape = w.tape
  os:w'.os = w.os
  output:w'.output = w.output
  drawn:w.drawn ≤ w'.drawn
  old:∀ b,b < L.base→w'.heap[b]? = w.heap[b]?
  pc:∀ o:Nat,o < n→L'.pc o = L.pc o
  base:L'.base = L.base:=by rfl
end Am
namespace Am
open Go
theorem OwnOk.move {L L':Lay} {tips tips':List Nat} (hb:L'.base = L.base) (ht:∀ (t k:Nat),tips[t]? = some k→∃ k',tips'[t]? = some k' ∧ k ≤ k' ∧ (k' = k→L'.τ[t]? = L.τ[t]?))
    {n:Nat} {v:Value} {t:Tip} (h:OwnOk L tips n v t):OwnOk L' tips' n v t:=by
  cases t with
  | exact=>obtain ⟨a,h1,h2⟩:=h;exact ⟨a,h1,fun p hp=>by rw [hb];exact h2 p hp⟩
  | tok t s=>
    obtain ⟨k,hk,hn,he⟩:=h
    obtain ⟨k',hk',hle,hτ⟩:=ht t k hk
    refine ⟨k',hk',Nat.le_trans hn hle,fun hkn=>?_⟩
    have e1:k = n:=by omega
    have e2:k' = k:=by omega
    rw [hτ e2]
    exact he e1
structure Stays (L:Lay) (tips:List Nat) (w:World) (L':Lay) (tips':List Nat) (w':World):Prop where
  g:Grows L.I w L'.I w'
  φ:∀ (o b:Nat),L.φ[o]? = some (some b)→L'.φ[o]? = some (some b)
  t:∀ (t k:Nat),tips[t]? = some k→∃ k',tips'[t]? = some k' ∧ k ≤ k' ∧ (k' = k→L'.τ[t]? = L.τ[t]?)
  base:L'.base = L.base:=by rfl
mutual
theorem VRel.move {L L':Lay} {tips tips':List Nat} {w w':World} (s:Stays L tips w L' tips' w') {u:HV} {v:Value}:VRel L tips w u v→VRel L' tips' w' u v
  | .d x v h=>.d x v (h.grow s.g)
  | .own rows t v h h'=>.own rows t v (h.grow s.g) (h'.move s.base s.t)
  | .ref o off b h=>.ref o off b (s.φ o b h)
  | .row o off len sz b cap h h'=>.row o off len sz b cap (s.φ o b h) h'
  | .map o b h=>.map o b (s.φ o b h)
  | .iref cells b off h=>.iref cells b off (h.grow s.g)
  | .fn f a b x y h h'=>.fn f a b x y (VRels.move s h) (VRels.move s h')
  | .agg cs vs h=>.agg cs vs (VRels.move s h)
  | .tup cs vs h=>.tup cs vs (VRels.move s h)
theorem VRels.move {L L':Lay} {tips tips':List Nat} {w w':World} (s:Stays L tips w L' tips' w') {us:List HV} {vs:List Value}:VRels L tips w us vs→VRels L' tips' w' us vs
  | .nil=>.nil
  | .cons c v cs vs h h'=>.cons c v cs vs (VRel.move s h) (VRels.move s h')
end
section
variable {L:Lay} {tips:List Nat} {w:World}
theorem VRels.length {us:List HV} {vs:List Value} (h:VRels L tips w us vs):us.length = vs.length:=by
  induction us generalizing vs with
  | nil=>cases h;rfl
  | cons u us ih=>cases h with | cons _ v _ vs _ h'=>simp [ih h']
theorem VRels.get {us:List HV} {vs:List Value} (h:VRels L tips w us vs) (k:Nat) {u:HV} (hk:us[k]? = some u):∃ v,vs[k]? = some v ∧ VRel L tips w u v:=by
  induction us generalizing vs k with
  | nil=>simp at hk
  | cons c us ih=>
    cases h with
    | cons _ v _ vs h1 h'=>
      cases k with
      | zero=>simp at hk;subst hk;exact ⟨v,rfl,h1⟩
      | succ k=>simpa using ih h' k (by simpa using hk)
theorem VRels.of {us:List HV} {vs:List Value} (hl:us.length = vs.length) (h:∀ (k:Nat) (u:HV) (v:Value),us[k]? = some u→vs[k]? = some v→VRel L tips w u v):VRels L tips w us vs:=by
  induction us generalizing vs with
  | nil=>cases vs with | nil=>exact .nil | cons _ _=>simp at hl
  | cons u us ih=>
    cases vs with
    | nil=>simp at hl
    | cons v vs=>
      exact .cons _ _ _ _ (h 0 u v rfl rfl) (ih (by simpa using hl) fun k a b ha hb=>h (k + 1) a b (by simpa using ha) (by simpa using hb))
theorem VRels.take {us:List HV} {vs:List Value} (h:VRels L tips w us vs) (n:Nat):VRels L tips w (us.take n) (vs.take n):=by
  induction n generalizing us vs with
  | zero=>simpa using VRels.nil
  | succ n ih=>cases h with
    | nil=>simpa using VRels.nil
    | cons c v cs vs h h'=>simpa using VRels.cons _ _ _ _ h (ih h')
theorem VRels.drop {us:List HV} {vs:List Value} (h:VRels L tips w us vs) (n:Nat):VRels L tips w (us.drop n) (vs.drop n):=by
  induction n generalizing us vs with
  | zero=>simpa using h
  | succ n ih=>cases h with
    | nil=>simpa using VRels.nil
    | cons c v cs vs h h'=>simpa using ih h'
theorem VRels.append {us us':List HV} {vs vs':List Value} (h:VRels L tips w us vs) (h':VRels L tips w us' vs'):VRels L tips w (us ++ us') (vs ++ vs'):=by
  induction us generalizing vs with
  | nil=>cases h;simpa using h'
  | cons u us ih=>cases h with | cons _ v _ vs h1 h2=>simpa using VRels.cons _ _ _ _ h1 (ih h2)
theorem VRels.one {u:HV} {v:Value} (h:VRel L tips w u v):VRels L tips w [u] [v]:=.cons _ _ _ _ h .nil
theorem VRels.mk_dcells {cs:List D} {vs:List Value} (hl:cs.length = vs.length) (h:∀ (k:Nat) (x:D) (v:Value),cs[k]? = some x→vs[k]? = some v→DRel L.I w x v):VRels L tips w (dcells cs) vs:=by
  refine VRels.of (by simpa [dcells] using hl) fun k u v hu hv=>?_
  simp only [dcells,List.getElem?_map] at hu
  cases hx:cs[k]? with
  | none=>rw [hx] at hu;cases hu
  | some x=>rw [hx] at hu;cases hu;exact .d _ _ (h k x v hx hv)
theorem VRel.toD {u:HV} {v:Value} {x:D} (h:VRel L tips w u v) (hx:u.toD = some x):DRel L.I w x v:=by
  cases h <;> simp only [HV.toD,Option.some.injEq,reduceCtorEq] at hx
  case d h=>exact hx ▸ h
  case own h _=>exact hx ▸ h
theorem VRels.toDs {us:List HV} {vs:List Value} {xs:List D} (h:VRels L tips w us vs) (hx:toDs us = some xs) :
    xs.length = vs.length ∧ ∀ (k:Nat) (x:D) (v:Value),xs[k]? = some x→vs[k]? = some v→DRel L.I w x v:=by
  induction us generalizing vs xs with
  | nil=>cases h;simp only [Am.toDs,Option.some.injEq] at hx;subst hx;exact ⟨rfl,fun k x v hk=>by simp at hk⟩
  | cons u us ih=>
    cases h with
    | cons _ v _ vs h1 h2=>
      simp only [Am.toDs] at hx
      cases h3:u.toD with
      | none=>simp [h3] at hx
      | some y=>
        cases h4:Am.toDs us with
        | none=>simp [h3,h4] at hx
        | some ys=>
          simp only [h3,h4,Option.some.injEq] at hx
          subst hx
          obtain ⟨hl,hr⟩:=ih h2 h4
          refine ⟨by simp [hl],fun k x v' hk hv=>?_⟩
          cases k with
          | zero=>simp at hk hv;subst hk;subst hv;exact h1.toD h3
          | succ k=>exact hr k x v' (by simpa using hk) (by simpa using hv)
theorem VRel.cells {u:HV} {v:Value} (h:VRel L tips w u v):VRels L tips w u.cells v.cells.toList:=by
  cases h with
  | agg cs vs h=>simpa [HV.cells,Value.cells] using h
  | d x v h=>
    have:v.cells = #[v]:=by cases h <;> rfl
    rw [this];exact .one (.d x v h)
  | own rows t v h h'=>
    have:v.cells = #[v]:=by cases h <;> rfl
    rw [this];exact .one (.own rows t v h h')
  | ref o off b h=>exact .one (.ref o off b h)
  | row o off len sz b cap h h'=>exact .one (.row o off len sz b cap h h')
  | map o b h=>exact .one (.map o b h)
  | iref cells b off h=>exact .one (.iref cells b off h)
  | fn f a b x y h h'=>exact .one (.fn f a b x y h h')
  | tup cs vs h=>exact .one (.tup cs vs h)
def HV.leaf:HV→Bool
  | .agg _ | .tup _=>false
  | _=>true
theorem VRel.oneCell {u:HV} {v:Value} (h:VRel L tips w u v) (hl:u.leaf = true):v.oneCell' = true:=by
  cases h with
  | agg=>simp [HV.leaf] at hl
  | tup=>simp [HV.leaf] at hl
  | d x v h=>cases h <;> rfl
  | own rows t v h h'=>cases h <;> rfl
  | ref=>rfl
  | row=>rfl
  | map=>rfl
  | iref=>rfl
  | fn=>rfl
theorem mkV_rel {isAgg:Bool} {cs:List HV} {vs:List Value} {u:HV} (h:VRels L tips w cs vs) (hu:mkV isAgg cs = some u) :
    VRel L tips w u (if isAgg then .agg vs.toArray else vs.getD 0 undef):=by
  unfold mkV at hu
  cases isAgg with
  | true=>simp only [if_true,Option.some.injEq] at hu ⊢;subst hu;exact .agg _ _ h
  | false=>
    simp only [Bool.false_eq_true,if_false] at hu ⊢
    cases h with
    | nil=>simp at hu
    | cons c v cs vs h h'=>cases h' with
      | nil=>simp only [Option.some.injEq] at hu;subst hu;simpa using h
      | cons=>simp at hu
end
theorem flatten_len {α:Type} {rows:List (List α)} {sz:Nat} (h:∀ r ∈ rows,r.length = sz):rows.flatten.length = rows.length * sz:=by
  induction rows with
  | nil=>simp
  | cons r rows ih=>
    simp only [List.flatten_cons,List.length_append,List.length_cons,h r (by simp),ih fun x hx=>h x (by simp [hx]),Nat.add_mul]
    omega
theorem flatten_take {α:Type} {rows:List (List α)} {sz:Nat} (h:∀ r ∈ rows,r.length = sz) (k:Nat):(rows.take k).flatten = rows.flatten.take (k * sz):=by
  induction rows generalizing k with
  | nil=>simp
  | cons x rows ih=>
    have hx:=h x (by simp)
    cases k with
    | zero=>simp
    | succ k=>
      have e1:List.take (k * sz + sz) x = x:=List.take_of_length_le (by omega)
      have e2:k * sz + sz - x.length = k * sz:=by omega
      rw [List.take_succ_cons,List.flatten_cons,List.flatten_cons,ih (fun y hy=>h y (by simp [hy])),Nat.succ_mul,List.take_append,e1,e2]
theorem flatten_drop {α:Type} {rows:List (List α)} {sz:Nat} (h:∀ r ∈ rows,r.length = sz) (k:Nat):(rows.drop k).flatten = rows.flatten.drop (k * sz):=by
  induction rows generalizing k with
  | nil=>simp
  | cons x rows ih=>
    have hx:=h x (by simp)
    cases k with
    | zero=>simp
    | succ k=>
      have e1:List.drop (k * sz + sz) x = []:=List.drop_eq_nil_of_le (by omega)
      have e2:k * sz + sz - x.length = k * sz:=by omega
      rw [List.drop_succ_cons,List.flatten_cons,ih (fun y hy=>h y (by simp [hy])),Nat.succ_mul,List.drop_append,e1,e2,List.nil_append]
theorem flatten_at {α:Type} {rows:List (List α)} {sz k:Nat} {r:List α} (h:∀ r ∈ rows,r.length = sz) (hr:rows[k]? = some r):(rows.flatten.drop (k * sz)).take sz = r:=by
  induction rows generalizing k with
  | nil=>simp at hr
  | cons x rows ih=>
    have hx:=h x (by simp)
    cases k with
    | zero=>simp at hr;subst hr;simp [← hx]
    | succ k=>
      have:=ih (k:=k) (fun y hy=>h y (by simp [hy])) (by simpa using hr)
      rw [List.flatten_cons,Nat.succ_mul,List.drop_append,List.drop_eq_nil_of_le (by omega),List.nil_append,show k * sz + sz - x.length = k * sz by omega]
      exact this
theorem CellsRel.row {I:Nat→Nat} {w:World} {b off:Nat} {rows:List (List D)} {sz k:Nat} {r:List D} (h:CellsRel I w b off rows.flatten) (ha:∀ r ∈ rows,r.length = sz) (hr:rows[k]? = some r) :
    CellsRel I w b (off + k * sz) r:=by
  have hk:=lt_of_getElem? hr
  have hl:=flatten_len ha
  have hle:k * sz ≤ rows.flatten.length:=by rw [hl];exact Nat.mul_le_mul_right _ (by omega)
  have:=(h.drop (k * sz) hle).take sz
  rwa [flatten_at ha hr] at this
end Am
