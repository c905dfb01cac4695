/- A part of the proof of BuildAgain: no condition of its own. Whence: AmDefs. -/
import GoSem.Core.Code
import GoSem.Core.Lib
import GoSem.Op.IntArith
import GoSem.Op.IntDiv
import GoSem.Op.IntBits
import GoSem.Op.Shift
import GoSem.Op.String
import GoSem.Core.Utf8
set_option linter.all false
namespace Am
open Go
inductive D where
  | bool (b:Bool)
  | int (k:IntKind) (n:Int)
  | str (s:List UInt8)
  | sl (rows:List (List D))
  | nilp
  | nilm
  | nilf
  deriving Inhabited
inductive Tip where
  | exact
  | tok (t sz:Nat)
inductive HV where
  | d (x:D)
  | own (rows:List (List D)) (t:Tip)
  | ref (o off:Nat)
  | row (o off len sz:Nat)
  | map (o:Nat)
  | iref (cells:List D)
  | fn (f:FuncId) (first captured:List HV)
  | agg (cells:List HV)
  | tup (vs:List HV)
  deriving Inhabited
inductive Obj where
  | cells (c:List HV)
  | map (ka va:Bool) (es:List (List D × List D)) (st:List Nat × Nat)
  | iter (s:List UInt8) (pos:Nat)
  | dead
structure St where
  objs:List Obj
  tips:List Nat
  low:Option Nat
def undefV:HV:=.tup []
abbrev Env:=List (Nat × HV)
def Env.get:Env→Nat→Option HV
  | [],_=>none
  | (j,v) :: r,k=>if j = k then some v else Env.get r k
def Env.put (e:Env) (dst:Option Nat) (v:HV):Env:=
  match dst with
  | some d=>(d,v) :: e
  | none=>e
def Env.restrict (e:Env):List Nat→Env
  | []=>[]
  | k :: ks=>match e.get k with
    | some v=>(k,v) :: Env.restrict e ks
    | none=>Env.restrict e ks
inductive LK where
  | b | i | s
inductive HO where
  | slot (n:Nat)
  | const (v:HV)
  | gl (cells:List D)
inductive HOp where
  | move (x:HO)
  | nilTok
  | pick (c a b:HO)
  | alloc (zero:List HV)
  | box (sz:Nat) (x:HO)
  | build (zero:List HV) (parts:List (Nat × Nat × HO))
  | buildSlice (sz:Nat) (parts:List HO)
  | load (sz:Nat) (isAgg:Bool) (x:HO)
  | store (sz:Nat) (x v:HO)
  | nilCheck (x:HO)
  | bin (op:BinOp) (x y:HO)
  | binB (neg:Bool) (x y:HO)
  | binP (neg:Bool) (x y:HO)
  | eqAgg (neg:Bool) (ks:List LK) (x y:HO)
  | un (op:UnOp) (x:HO)
  | convInt (k:IntKind) (x:HO)
  | convBS (x:HO)
  | convSB (x:HO)
  | convSS (x:HO)
  | makeFunc (f:FuncId) (first captured:List HO)
  | makeMap (ka va:Bool) (hint:Option HO)
  | makeSlice (sz:Nat) (zero:List HV) (len cap:HO)
  | sliceStr (x:HO) (lo hi:Option HO)
  | sliceSl (sz:Nat) (x:HO) (lo hi:Option HO)
  | sliceArr (n sz:Nat) (x:HO) (lo hi:Option HO)
  | fieldAddr (off:Nat) (x:HO)
  | field (off sz:Nat) (isAgg:Bool) (x:HO)
  | indexAddrArr (n sz:Nat) (x i:HO)
  | indexAddrSl (sz:Nat) (x i:HO)
  | indexStr (x i:HO)
  | lookup (zero:List D) (vAgg kAgg:Bool) (ks:List LK) (m k:HO) (ok:Bool)
  | mapUpdate (kAgg vAgg:Bool) (ks:List LK) (m k v:HO)
  | mapEntry (zero:List D) (vAgg kAgg:Bool) (ks:List LK) (m k:HO)
  | entryStore (vAgg:Bool) (m s v:HO)
  | rangeStr (x:HO)
  | nextStr (it:HO)
  | extract (x:HO) (i:Nat)
  | callF (f:FuncId) (args:List HO)
  | callV (x:HO) (args:List HO)
  | lenC (n:Nat)
  | len (k:LK) (x:HO)
  | append (sz:Nat) (x y:HO)
  | copy (sz:Nat) (x y:HO)
  | delete (kAgg:Bool) (ks:List LK) (m k:HO)
  | minmax (max:Bool) (xs:List HO)
structure HOper where
  dst:Option Nat
  op:HOp
  guard:Option (Nat × Bool)
  un:List Nat
inductive HC where
  | skip
  | region (draw:Bool) (ops:List HOper) (keep:List Nat)
  | seq (a b:HC)
  | cond (c:HO) (a b:HC)
  | block (id:Nat) (keep:List Nat) (body:HC)
  | loop (keep:List Nat) (body:HC)
  | scope (body:HC)
  | label (l:Nat)
  | exit (id:Nat)
  | ret
inductive HRes where
  | slot (t:Nat)
  | cell (t sz:Nat) (isAgg:Bool)
inductive RetPol where
  | shut | half | keepTip | raw
structure HFun where
  code:HC
  res:List HRes
  open_:List Nat
  pol:RetPol
def HV.cells:HV→List HV
  | .agg cs=>cs
  | v=>[v]
def HV.flat1:HV→Bool
  | .agg _ | .tup _=>false
  | _=>true
def HV.isAgg:HV→Bool
  | .agg _=>true
  | _=>false
def HV.toD:HV→Option D
  | .d x=>some x
  | .own rows _=>some (.sl rows)
  | _=>none
def toDs:List HV→Option (List D)
  | []=>some []
  | v :: vs=>match v.toD,toDs vs with
    | some x,some xs=>some (x :: xs)
    | _,_=>none
def mkV (isAgg:Bool) (cs:List HV):Option HV:=
  if isAgg then some (.agg cs) else
  match cs with
  | [v]=>some v
  | _=>none
def dcells (cs:List D):List HV:=cs.map .d
def HV.loose1:HV→Bool
  | .d _ | .iref _ | .own _ .exact=>false
  | .agg _ | .tup _=>true
  | _=>true
def HV.loose:HV→Bool
  | .agg cs=>cs.any HV.loose1
  | .tup []=>false
  | v=>v.loose1
def HV.under1 (no nt:Nat):HV→Bool
  | .d _ | .iref _ | .own _ .exact=>true
  | .own _ (.tok t _)=>t < nt
  | .ref o _ | .row o _ _ _ | .map o=>o < no
  | .fn _ first cap=>first.isEmpty && cap.all fun | .ref o _=>o < no | _=>false
  | .agg _=>false
  | .tup _=>false
def HV.under (no nt:Nat):HV→Bool
  | .agg cs=>cs.all (HV.under1 no nt)
  | .tup []=>true
  | v=>v.under1 no nt
def minLow:Option Nat→Option Nat→Option Nat
  | none,b=>b
  | some a,none=>some a
  | some a,some b=>some (min a b)
def lowOk (base:Nat):Option Nat→Bool
  | none=>true
  | some a=>base ≤ a
def shut1:HV→HV
  | .own rows _=>.d (.sl rows)
  | v=>v
def shut:HV→HV
  | .agg cs=>.agg (cs.map shut1)
  | v=>shut1 v
def scalarEq:LK→D→D→Option Bool
  | .b,.bool a,.bool b=>some (a == b)
  | .i,.int j a,.int k b=>if j = k then some (a == b) else none
  | .s,.str a,.str b=>some (a == b)
  | _,_,_=>none
def cellsEq:List LK→List D→List D→Option Bool
  | [],[],[]=>some true
  | k :: ks,a :: as,b :: bs=>match scalarEq k a b,cellsEq ks as bs with
    | some x,some y=>some (x && y)
    | _,_=>none
  | _,_,_=>none
def findKey (ks:List LK) (k:List D):List (List D × List D)→Nat→Option (Option (Nat × List D))
  | [],_=>some none
  | (j,v) :: es,i=>match cellsEq ks k j with
    | some true=>some (some (i,v))
    | some false=>findKey ks k es (i + 1)
    | none=>none
def St.cells? (H:St) (o:Nat):Option (List HV):=
  match H.objs[o]? with
  | some (.cells c)=>some c
  | _=>none
def St.map? (H:St) (o:Nat):Option (Bool × Bool × List (List D × List D)):=
  match H.objs[o]? with
  | some (.map ka va es _)=>some (ka,va,es)
  | _=>none
def St.mapOf (H:St) (ka va:Bool):HV→Option (Bool × Bool × List (List D × List D))
  | .d .nilm=>some (ka,va,[])
  | .map o=>H.map? o
  | _=>none
def St.setObj (H:St) (o:Nat) (x:Obj):St:={ H with objs:=H.objs.set o x }
def St.alloc (H:St) (x:Obj):St:={ H with objs:=H.objs ++ [x] }
def St.noteLow (H:St) (o:Nat) (l:Bool):St:=if l then { H with low:=minLow H.low (some o) } else H
def splice (c:List HV) (off:Nat) (vs:List HV):List HV:=c.take off ++ vs ++ c.drop (off + vs.length)
def St.read (H:St) (x:HV) (sz:Nat):Option (List HV):=
  match x with
  | .ref o off=>match H.cells? o with
    | some c=>if off + sz ≤ c.length then some ((c.drop off).take sz) else none
    | none=>none
  | .iref cs=>if sz ≤ cs.length then some (dcells (cs.take sz)) else none
  | _=>none
def St.write (H:St) (x:HV) (vs:List HV):Option St:=
  match x with
  | .ref o off=>match H.cells? o with
    | some c=>if off + vs.length ≤ c.length then some ((H.setObj o (.cells (splice c off vs))).noteLow o (vs.any HV.loose1)) else none
    | none=>none
  | _=>none
def chunks (sz:Nat):Nat→List D→List (List D)
  | 0,_=>[]
  | n + 1,cs=>cs.take sz :: chunks sz n (cs.drop sz)
def St.rows (H:St) (x:HV) (sz:Nat):Option (List (List D)):=
  match x with
  | .d (.sl rows) | .own rows _=>if rows.all (·.length == sz) then some rows else none
  | .d (.str s)=>if sz = 1 then some (s.map fun b=>[.int .u8 b.toNat]) else none
  | .row o off len s=>if s = sz then match H.cells? o with
      | some c=>if off + len * sz ≤ c.length then (toDs ((c.drop off).take (len * sz))).map (chunks sz len) else none
      | none=>none
    else none
  | _=>none
def bytesOf:List (List D)→Option (List UInt8)
  | []=>some []
  | [.int .u8 n] :: r=>(bytesOf r).map (n.toNat.toUInt8 :: ·)
  | _=>none
def intOf:HV→Option Int
  | .d (.int _ n)=>some n
  | _=>none
def roomN:Nat:=1073741824
def evalBin (op:BinOp):HV→HV→Option HV
  | .d (.int j a),.d (.int k b)=>
    match op with
    | .shl=>if 0 ≤ b then some (.d (.int j (j.wrap (a * 2 ^ (min b.toNat j.bits))))) else none
    | .shr=>if 0 ≤ b then some (.d (.int j (a.fdiv (2 ^ (min b.toNat j.bits))))) else none
    | _=>if j ≠ k then none else
      match op with
      | .add=>some (.d (.int j (j.wrap (a + b))))
      | .sub=>some (.d (.int j (j.wrap (a - b))))
      | .mul=>some (.d (.int j (j.wrap (a * b))))
      | .quo=>if b = 0 then none else some (.d (.int j (j.wrap (a.tdiv b))))
      | .rem=>if b = 0 then none else some (.d (.int j (a.tmod b)))
      | .and=>some (.d (.int j (j.wrap (BitVec.ofInt j.bits a &&& BitVec.ofInt j.bits b).toNat)))
      | .or=>some (.d (.int j (j.wrap (BitVec.ofInt j.bits a ||| BitVec.ofInt j.bits b).toNat)))
      | .xor=>some (.d (.int j (j.wrap (BitVec.ofInt j.bits a ^^^ BitVec.ofInt j.bits b).toNat)))
      | .andNot=>some (.d (.int j (j.wrap (BitVec.ofInt j.bits a &&& ~~~ BitVec.ofInt j.bits b).toNat)))
      | .eql=>some (.d (.bool (a == b)))
      | .neq=>some (.d (.bool (a != b)))
      | .lss=>some (.d (.bool (decide (a < b))))
      | .leq=>some (.d (.bool (decide (a ≤ b))))
      | .gtr=>some (.d (.bool (decide (a > b))))
      | .geq=>some (.d (.bool (decide (a ≥ b))))
      | _=>none
  | .d (.str a),.d (.str b)=>
    match op with
    | .add=>if a.length + b.length ≤ 4611686018427387904 then some (.d (.str (a ++ b))) else none
    | .eql=>some (.d (.bool (a == b)))
    | .neq=>some (.d (.bool (!(a == b))))
    | .lss=>some (.d (.bool (Op.bytesLess a b)))
    | .geq=>some (.d (.bool (!Op.bytesLess a b)))
    | _=>none
  | _,_=>none
def evalBinB (neg:Bool):HV→HV→Option HV
  | .d (.bool a),.d (.bool b)=>some (.d (.bool (if neg then !(a == b) else (a == b))))
  | _,_=>none
def evalBinP (neg:Bool):HV→HV→Option HV
  | .d .nilp,.d .nilp=>some (.d (.bool !neg))
  | .ref _ _,.d .nilp=>some (.d (.bool neg))
  | .d .nilp,.ref _ _=>some (.d (.bool neg))
  | _,_=>none
def evalUn (op:UnOp):HV→Option HV
  | .d (.int k n)=>match op with
    | .neg=>some (.d (.int k (k.wrap (0 - n))))
    | .xor=>some (.d (.int k (k.wrap (BitVec.ofInt k.bits (if k.signed then -1 else k.max) ^^^ BitVec.ofInt k.bits n).toNat)))
    | _=>none
  | .d (.bool b)=>match op with
    | .not=>some (.d (.bool !b))
    | _=>none
  | _=>none
def fillParts:List HV→List (Nat × Nat × HV)→Option (List HV)
  | cs,[]=>some cs
  | cs,(off,sz,v) :: ps=>
    if v.cells.length = sz ∧ off + sz ≤ cs.length then fillParts (splice cs off v.cells) ps else none
def optInt:Option HV→Int→Option Int
  | none,dflt=>some dflt
  | some v,_=>intOf v
def boundsOk (lo hi:Int) (len:Nat):Bool:=decide (0 ≤ lo) && decide (lo ≤ hi) && decide (hi ≤ (len:Int))
abbrev CallT:=FuncId→List HV→St→Option (HV × St)
def evalMin (mx:Bool):Int→IntKind→List HV→Option HV
  | x,k,[]=>some (.d (.int k x))
  | x,k,.d (.int j y) :: r=>if j = k then evalMin mx (if mx then (if y > x then y else x) else (if y < x then y else x)) k r else none
  | _,_,_=>none
def bnd (ρ:HO→Option HV) (lo:Option HO) (dflt:Int):Option Int:=
  match lo with
  | none=>some dflt
  | some y=>(ρ y).bind intOf
def stepOp (call:CallT) (ρ:HO→Option HV) (H:St):HOp→Option (HV × St)
  | .move x=>(ρ x).map (·,H)
  | .nilTok=>some (.own [] (.tok H.tips.length 0),{ H with tips:=H.tips ++ [0] })
  | .pick c a b=>match ρ c with
    | some (.d (.bool t))=>(ρ (if t then a else b)).map (·,H)
    | _=>none
  | .alloc zero=>some (.ref H.objs.length 0,H.alloc (.cells zero))
  | .box sz x=>match ρ x with
    | some v=>if v.cells.length = sz then some (.ref H.objs.length 0,(H.alloc (.cells v.cells))) else none
    | none=>none
  | .build zero parts=>match parts.mapM fun (o,s,x)=>(ρ x).map fun v=>(o,s,v) with
    | some ps=>(fillParts zero ps).map fun cs=>(.agg cs,H)
    | none=>none
  | .buildSlice sz parts=>match parts.mapM fun x=>match ρ x with
      | some v=>(toDs v.cells).bind fun r=>if r.length = sz then some r else none
      | none=>none with
    | some rows=>some (.own rows .exact,H)
    | none=>none
  | .load sz isAgg x=>match ρ x with
    | some a=>match H.read a sz with
      | some cs=>(mkV isAgg cs).map (·,H)
      | none=>none
    | none=>none
  | .store sz x v=>match ρ x,ρ v with
    | some a,some u=>if u.cells.length = sz ∧ u.cells.all HV.flat1 then (H.write a u.cells).map (undefV,·) else none
    | _,_=>none
  | .nilCheck x=>match ρ x with
    | some (.ref o f)=>some (.ref o f,H)
    | some (.iref cs)=>some (.iref cs,H)
    | some (.fn f a b)=>some (.fn f a b,H)
    | _=>none
  | .bin op x y=>match ρ x,ρ y with
    | some a,some b=>(evalBin op a b).map (·,H)
    | _,_=>none
  | .binB neg x y=>match ρ x,ρ y with
    | some a,some b=>(evalBinB neg a b).map (·,H)
    | _,_=>none
  | .binP neg x y=>match ρ x,ρ y with
    | some a,some b=>(evalBinP neg a b).map (·,H)
    | _,_=>none
  | .eqAgg neg ks x y=>match ρ x,ρ y with
    | some (.agg a),some (.agg b)=>match toDs a,toDs b with
      | some c,some e=>(cellsEq ks c e).map fun t=>(.d (.bool (if neg then !t else t)),H)
      | _,_=>none
    | _,_=>none
  | .un op x=>match ρ x with
    | some a=>(evalUn op a).map (·,H)
    | none=>none
  | .convInt k x=>match ρ x with
    | some (.d (.int _ n))=>some (.d (.int k (k.wrap n)),H)
    | _=>none
  | .convBS x=>match ρ x with
    | some (.d (.str _))=>none
    | some v=>match H.rows v 1 with
      | some rows=>(bytesOf rows).map fun s=>(.d (.str s),H)
      | none=>none
    | none=>none
  | .convSB x=>match ρ x with
    | some (.d (.str s))=>some (.d (.sl (s.map fun b=>[.int .u8 b.toNat])),H)
    | _=>none
  | .convSS x=>match ρ x with
    | some (.own ((a :: r) :: rs) .exact)=>some (.own ((a :: r) :: rs) .exact,H)
    | _=>none
  | .makeFunc f first captured=>match first.mapM ρ,captured.mapM ρ with
    | some a,some b=>some (.fn f a b,H)
    | _,_=>none
  | .makeMap ka va hint=>match bnd ρ hint 0 with
    | some _=>some (.map H.objs.length,H.alloc (.map ka va [] ([],0)))
    | none=>none
  | .makeSlice sz zero len cap=>match ρ len,ρ cap with
    | some (.d (.int _ n)),some (.d (.int _ c))=>
      if zero.length = sz ∧ 0 ≤ n ∧ n ≤ c ∧ c ≤ (roomN:Int) then
        if n = 0 then some (.own [] (.tok H.tips.length sz),{ H with tips:=H.tips ++ [0] })
        else if n = c then some (.row H.objs.length 0 n.toNat sz,H.alloc (.cells (List.replicate n.toNat zero).flatten)) else none
      else none
    | _,_=>none
  | .sliceStr x lo hi=>match ρ x with
    | some (.d (.str s))=>match bnd ρ lo 0,bnd ρ hi (s.length:Int) with
      | some l,some h=>if boundsOk l h s.length then some (.d (.str ((s.take h.toNat).drop l.toNat)),H) else none
      | _,_=>none
    | _=>none
  | .sliceSl sz x lo hi=>match ρ x with
    | some v=>match v with
      | .d (.sl rows) | .own rows _=>match bnd ρ lo 0,bnd ρ hi (rows.length:Int) with
        | some l,some h=>if boundsOk l h rows.length && rows.all (·.length == sz) then some (.d (.sl ((rows.take h.toNat).drop l.toNat)),H) else none
        | _,_=>none
      | .row o off len s=>match bnd ρ lo 0,bnd ρ hi (len:Int) with
        | some l,some h=>if boundsOk l h len && s == sz then
            (if l = h then some (.d (.sl []),H) else some (.row o (off + l.toNat * sz) (h - l).toNat sz,H)) else none
        | _,_=>none
      | _=>none
    | none=>none
  | .sliceArr n sz x lo hi=>match ρ x with
    | some (.ref o off)=>match bnd ρ lo 0,bnd ρ hi (n:Int) with
      | some l,some h=>if boundsOk l h n then
          (if l = h then some (.d (.sl []),H) else some (.row o (off + l.toNat * sz) (h - l).toNat sz,H)) else none
      | _,_=>none
    | _=>none
  | .fieldAddr off x=>match ρ x with
    | some (.ref o f)=>some (.ref o (f + off),H)
    | some (.iref cs)=>if off ≤ cs.length then some (.iref (cs.drop off),H) else none
    | _=>none
  | .field off sz isAgg x=>match ρ x with
    | some (.agg cs)=>if off + sz ≤ cs.length then (mkV isAgg ((cs.drop off).take sz)).map (·,H) else none
    | _=>none
  | .indexAddrArr n sz x i=>match ρ x,ρ i with
    | some (.ref o f),some (.d (.int _ k))=>if 0 ≤ k ∧ k < (n:Int) then some (.ref o (f + k.toNat * sz),H) else none
    | some (.iref cs),some (.d (.int _ k))=>if 0 ≤ k ∧ k < (n:Int) ∧ k.toNat * sz ≤ cs.length then some (.iref (cs.drop (k.toNat * sz)),H) else none
    | _,_=>none
  | .indexAddrSl sz x i=>match ρ x,ρ i with
    | some v,some (.d (.int _ k))=>if 0 ≤ k then
        match v with
        | .d (.sl rows) | .own rows _=>match rows[k.toNat]? with
          | some r=>if r.length = sz then some (.iref r,H) else none
          | none=>none
        | .row o off len s=>if k < (len:Int) ∧ s = sz then some (.ref o (off + k.toNat * sz),H) else none
        | _=>none
      else none
    | _,_=>none
  | .indexStr x i=>match ρ x,ρ i with
    | some (.d (.str s)),some (.d (.int _ k))=>if 0 ≤ k then
        match s[k.toNat]? with
        | some b=>some (.d (.int .u8 b.toNat),H)
        | none=>none
      else none
    | _,_=>none
  | .lookup zero vAgg kAgg ks m k ok=>match ρ m,ρ k with
    | some mv,some kv=>if kv.isAgg = kAgg then match H.mapOf kAgg vAgg mv,toDs kv.cells with
      | some (ka,va,es),some key=>if ka = kAgg ∧ va = vAgg ∧ key.length = ks.length then match findKey ks key es 0 with
        | some (some (_,v))=>(mkV vAgg (dcells v)).map fun x=>(if ok then .tup [x,.d (.bool true)] else x,H)
        | some none=>(mkV vAgg (dcells zero)).map fun x=>(if ok then .tup [x,.d (.bool false)] else x,H)
        | none=>none
        else none
      | _,_=>none
      else none
    | _,_=>none
  | .mapUpdate kAgg vAgg ks m k v=>match ρ m,ρ k,ρ v with
    | some (.map o),some kv,some vv=>if kv.isAgg = kAgg ∧ vv.isAgg = vAgg then match H.objs[o]?,toDs kv.cells,toDs vv.cells with
      | some (.map ka va es st),some key,some val=>if ka = kAgg ∧ va = vAgg ∧ key.length = ks.length then match findKey ks key es 0 with
        | some (some (i,_))=>some (undefV,H.setObj o (.map ka va (es.set i (key,val)) st))
        | some none=>some (undefV,H.setObj o (.map ka va (es ++ [(key,val)]) (st.1 ++ [st.2],st.2 + 1)))
        | none=>none
        else none
      | _,_,_=>none
      else none
    | _,_,_=>none
  | .mapEntry zero vAgg kAgg ks m k=>match ρ m,ρ k with
    | some (.map o),some kv=>if kv.isAgg = kAgg then match H.objs[o]?,toDs kv.cells with
      | some (.map ka va es st),some key=>if ka = kAgg ∧ va = vAgg ∧ key.length = ks.length then match findKey ks key es 0 with
        | some (some (i,v))=>match mkV vAgg (dcells v),st.1[i]? with
          | some x,some b=>some (.tup [x,.d (.int .i64 b)],H.setObj o (.map ka va (es.set i (key,v)) st))
          | _,_=>none
        | some none=>match mkV vAgg (dcells zero) with
          | some x=>some (.tup [x,.d (.int .i64 st.2)],H.setObj o (.map ka va (es ++ [(key,zero)]) (st.1 ++ [st.2],st.2 + 1)))
          | none=>none
        | none=>none
        else none
      | _,_=>none
      else none
    | _,_=>none
  | .entryStore vAgg m s v=>match ρ m,ρ s,ρ v with
    | some (.map o),some (.d (.int _ n)),some vv=>if vv.isAgg = vAgg then match H.objs[o]?,toDs vv.cells with
      | some (.map ka va es st),some val=>if va = vAgg then match st.1.findIdx? (fun (b:Nat)=>(b:Int) == n) with
        | some i=>match es[i]? with
          | some (k,_)=>some (undefV,H.setObj o (.map ka va (es.set i (k,val)) st))
          | none=>none
        | none=>none
        else none
      | _,_=>none
      else none
    | _,_,_=>none
  | .rangeStr x=>match ρ x with
    | some (.d (.str s))=>some (.ref H.objs.length 0,H.alloc (.iter s 0))
    | _=>none
  | .nextStr it=>match ρ it with
    | some (.ref o 0)=>match H.objs[o]? with
      | some (.iter s pos)=>if pos < s.length then
          (let r:=Utf8.decode ⟨s.toArray⟩ pos
           some (.tup [.d (.bool true),.d (.int .i64 pos),.d (.int .i32 r.1)],H.setObj o (.iter s (pos + r.2))))
        else some (.tup [.d (.bool false)],H)
      | _=>none
    | _=>none
  | .extract x i=>match ρ x with
    | some (.tup vs)=>(vs[i]?).map (·,H)
    | _=>none
  | .callF f args=>match args.mapM ρ with
    | some vs=>call f vs H
    | none=>none
  | .callV x args=>match ρ x,args.mapM ρ with
    | some (.fn f first captured),some vs=>call f (first ++ vs ++ captured) H
    | _,_=>none
  | .lenC n=>some (.d (.int .i64 n),H)
  | .len k x=>match k,ρ x with
    | .s,some (.d (.str s))=>some (.d (.int .i64 s.length),H)
    | .i,some (.d (.sl rows))=>some (.d (.int .i64 rows.length),H)
    | .i,some (.own rows _)=>some (.d (.int .i64 rows.length),H)
    | .i,some (.row _ _ len _)=>some (.d (.int .i64 len),H)
    | .b,some (.d .nilm)=>some (.d (.int .i64 0),H)
    | .b,some (.map o)=>(H.map? o).map fun es=>(.d (.int .i64 es.2.2.length),H)
    | _,_=>none
  | .append sz x y=>match ρ x,ρ y with
    | some a,some b=>match H.rows b sz with
      | some ys=>match a with
        | .own rows t=>if ys = [] then some (.own rows t,H) else
          if rows.all (·.length == sz) && decide (rows.length + ys.length ≤ roomN) then
            match t with
            | .exact=>some (.own (rows ++ ys) (.tok H.tips.length sz),{ H with tips:=H.tips ++ [rows.length + ys.length] })
            | .tok k s=>match H.tips[k]? with
              | some n=>if n = rows.length ∧ (s = sz ∨ s = 0) then some (.own (rows ++ ys) (.tok k sz),{ H with tips:=H.tips.set k (rows.length + ys.length) }) else none
              | none=>none
          else none
        | .d (.sl rows)=>if ys = [] then some (.d (.sl rows),H) else none
        | _=>none
      | none=>none
    | _,_=>none
  | .copy sz x y=>match ρ x,ρ y with
    | some (.row o off len s),some b=>if s = sz then
        match H.rows b sz with
        | some ys=>(H.write (.ref o off) (dcells (ys.take len).flatten)).map fun H'=>(.d (.int .i64 (min ys.length len:Nat)),H')
        | none=>none
      else none
    | some (.d (.sl [])),some b=>match H.rows b sz with
      | some _=>some (.d (.int .i64 0),H)
      | none=>none
    | _,_=>none
  | .delete kAgg ks m k=>match ρ m,ρ k with
    | some (.map o),some kv=>if kv.isAgg = kAgg then match H.objs[o]?,toDs kv.cells with
      | some (.map ka va es st),some key=>if ka = kAgg ∧ key.length = ks.length then match findKey ks key es 0 with
        | some (some (i,_))=>some (undefV,H.setObj o (.map ka va (es.eraseIdx i) (st.1.eraseIdx i,st.2)))
        | some none=>some (undefV,H.setObj o (.map ka va es st))
        | none=>none
        else none
      | _,_=>none
      else none
    | _,_=>none
  | .minmax mx xs=>match xs.mapM ρ with
    | some (.d (.int k x) :: r)=>(evalMin mx x k r).map (·,H)
    | _=>none
def evalO (e:Env):HO→Option HV
  | .slot n=>e.get n
  | .const v=>some v
  | .gl cells=>some (.iref cells)
def wanted (e:Env):Option (Nat × Bool)→Option Bool
  | none=>some true
  | some (s,b)=>match e.get s with
    | some (.d (.bool c))=>some (c == b)
    | some (.tup [])=>some false
    | _=>none
def stepOper (call:CallT) (e:Env) (H:St) (o:HOper):Option (Env × St):=
  match wanted e o.guard with
  | some true=>match stepOp call (evalO e) H o.op with
    | some (v,H')=>some (e.put o.dst v,H')
    | none=>none
  | some false=>some (e.put o.dst undefV,H)
  | none=>none
def runOps (call:CallT):List HOper→Env→St→Option (Env × St)
  | [],e,H=>some (e,H)
  | o :: os,e,H=>match stepOper call e H o with
    | some (e',H')=>runOps call os e' H'
    | none=>none
mutual
def D.beq:D→D→Bool
  | .bool a,.bool b=>a == b
  | .int j a,.int k b=>decide (j = k) && decide (a = b)
  | .str a,.str b=>a == b
  | .sl a,.sl b=>rowsBeq a b
  | .nilp,.nilp=>true
  | .nilm,.nilm=>true
  | .nilf,.nilf=>true
  | _,_=>false
def rowsBeq:List (List D)→List (List D)→Bool
  | [],[]=>true
  | a :: as,b :: bs=>rowBeq a b && rowsBeq as bs
  | _,_=>false
def rowBeq:List D→List D→Bool
  | [],[]=>true
  | a :: as,b :: bs=>D.beq a b && rowBeq as bs
  | _,_=>false
end
def Tip.beq:Tip→Tip→Bool
  | .exact,.exact=>true
  | .tok a s,.tok b r=>decide (a = b) && decide (s = r)
  | _,_=>false
mutual
def HV.beq:HV→HV→Bool
  | .d a,.d b=>D.beq a b
  | .own a t,.own b u=>rowsBeq a b && Tip.beq t u
  | .ref a b,.ref c d=>decide (a = c) && decide (b = d)
  | .row a b c d,.row e f g h=>decide (a = e) && decide (b = f) && decide (c = g) && decide (d = h)
  | .map a,.map b=>decide (a = b)
  | .iref a,.iref b=>rowBeq a b
  | .fn f a b,.fn g c d=>decide (f = g) && valsBeq a c && valsBeq b d
  | .agg a,.agg b=>valsBeq a b
  | .tup a,.tup b=>valsBeq a b
  | _,_=>false
def valsBeq:List HV→List HV→Bool
  | [],[]=>true
  | a :: as,b :: bs=>HV.beq a b && valsBeq as bs
  | _,_=>false
end
def HOp.quiet:HOp→Bool
  | .load .. | .lookup .. | .len .. | .convBS _=>true
  | _=>false
def HOp.plain:HOp→Bool
  | .move _ | .pick .. | .build .. | .buildSlice .. | .nilCheck _ | .bin .. | .binB .. | .binP .. | .eqAgg .. | .un .. | .convInt .. | .convSB _ | .makeFunc ..
  | .sliceStr .. | .sliceSl .. | .sliceArr .. | .fieldAddr .. | .field .. | .indexAddrArr .. | .indexAddrSl .. | .indexStr .. | .extract .. | .lenC _ | .minmax ..=>true
  | _=>false
def HOp.isAlloc:HOp→Bool
  | .alloc _=>true
  | _=>false
def runAllocs (call:CallT):List HOper→Env→St→Option (Env × St)
  | [],e,H=>some (e,H)
  | o :: os,e,H=>if o.op.isAlloc then
      match stepOper call e H o with
      | some (e',H')=>runAllocs call os e' H'
      | none=>none
    else runAllocs call os e H
structure Look where
  idx:Nat
  e:Env
  o:HOper
  v:HV
def sameLook (r:Option (HV × St)) (v:HV):Bool:=
  match r with
  | some (u,_)=>u.beq v
  | none=>false
def drawOps (call:CallT):List HOper→Nat→Env→St→List (Nat × St)→List Look→Option (Env × St)
  | [],_,e,H,_,_=>some (e,H)
  | o :: os,i,e,H,sn,pe=>
    if o.op.isAlloc then drawOps call os (i + 1) e H sn pe else
    match wanted e o.guard with
    | some true=>match stepOp call (evalO e) H o.op with
      | some (v,H')=>
        if o.op.plain then drawOps call os (i + 1) (e.put o.dst v) H sn pe
        else if o.op.quiet then
          if sn.all fun s=>!o.un.contains s.1 || sameLook (stepOp call (evalO e) s.2 o.op) v then
            drawOps call os (i + 1) (e.put o.dst v) H sn (if o.un.isEmpty then pe else ⟨i,e,o,v⟩ :: pe)
          else none
        else
          if pe.all fun l=>!o.un.contains l.idx || sameLook (stepOp call (evalO l.e) H' l.o.op) l.v then
            drawOps call os (i + 1) (e.put o.dst v) H' (if o.un.isEmpty then sn else (i,H) :: sn) pe
          else none
      | none=>none
    | some false=>drawOps call os (i + 1) (e.put o.dst undefV) H sn pe
    | none=>none
inductive Out where
  | normal
  | exit (id:Nat)
  | ret
abbrev Step:=Env→St→Option (Out × Env × St)
def iter (step:Step):Nat→Step
  | 0,_,_=>none
  | n + 1,e,H=>match step e H with
    | some (.normal,e',H')=>iter step n e' H'
    | r=>r
def closeRound (base:St) (keep:List Nat) (e:Env) (H:St):Env × St:=
  let e':=e.restrict keep
  if lowOk base.objs.length H.low && e'.all (fun p=>p.2.under base.objs.length H.tips.length)
  then (e',{ objs:=H.objs.take base.objs.length,tips:=H.tips,low:=base.low })
  else (e',{ H with low:=minLow base.low H.low })
def round (keep:List Nat) (body:Step):Step:=fun e H=>
  match body (e.restrict keep) { H with low:=none } with
  | some (.normal,e',H')=>let r:=closeRound H keep e' H';some (.normal,r.1,r.2)
  | some (o,e',H')=>some (o,e',{ H' with low:=minLow H.low H'.low })
  | none=>none
def exec (n:Nat) (call:CallT):HC→Step
  | .skip=>fun e H=>some (.normal,e,H)
  | .region draw ops keep=>fun e H=>
    match (if draw then (match runAllocs call ops e H with
        | some (e',H')=>drawOps call ops 0 e' H' [] []
        | none=>none) else runOps call ops e H) with
    | some (e',H')=>some (.normal,e'.restrict keep,H')
    | none=>none
  | .seq a b=>fun e H=>match exec n call a e H with
    | some (.normal,e',H')=>exec n call b e' H'
    | r=>r
  | .cond c a b=>fun e H=>match evalO e c with
    | some (.d (.bool true))=>exec n call a e H
    | some (.d (.bool false))=>exec n call b e H
    | _=>none
  | .block id keep body=>fun e H=>match exec n call body e H with
    | some (.normal,e',H')=>some (.normal,e'.restrict keep,H')
    | some (.exit i,e',H')=>if i = id then some (.normal,e'.restrict keep,H') else some (.exit i,e',H')
    | r=>r
  | .loop keep body=>iter (round keep (exec n call body)) n
  | .scope body=>exec n call body
  | .label _=>fun e H=>some (.normal,e,H)
  | .exit id=>fun e H=>some (.exit id,e,H)
  | .ret=>fun e H=>some (.ret,e,H)
def results (e:Env) (H:St):List HRes→Option (List HV)
  | []=>some []
  | .slot t :: rs=>match e.get t,results e H rs with
    | some v,some vs=>some (v :: vs)
    | _,_=>none
  | .cell t sz isAgg :: rs=>match e.get t with
    | some a=>match H.read a sz with
      | some cs=>match mkV isAgg cs,results e H rs with
        | some v,some vs=>some (v :: vs)
        | _,_=>none
      | none=>none
    | none=>none
def oneOrTup:List HV→HV
  | [v]=>v
  | vs=>.tup vs
def St.freeze (H:St) (base:Nat):HV→HV
  | .row o off len sz=>if base ≤ o then
      match H.rows (.row o off len sz) sz with
      | some rows=>.d (.sl rows)
      | none=>.row o off len sz
    else .row o off len sz
  | v=>v
def shutR (H:St) (base:Nat) (v:HV):HV:=H.freeze base (shut v)
def half1:HV→HV
  | .own rows (.tok _ _)=>.d (.sl rows)
  | v=>v
def half:HV→HV
  | .agg cs=>.agg (cs.map half1)
  | v=>half1 v
def HV.looseR (v:HV):Bool:=v.loose
def finish (pol:RetPol) (h:St) (vs:List HV) (H:St):HV × St:=
  let low:=minLow h.low H.low
  match pol with
  | .raw=>(oneOrTup vs,{ H with low })
  | .shut=>
    let us:=vs.map (shutR H h.objs.length)
    if lowOk h.objs.length H.low && us.all (fun v=>!v.loose)
    then (oneOrTup us,{ objs:=H.objs.take h.objs.length,tips:=H.tips.take h.tips.length,low:=h.low })
    else (oneOrTup vs,{ H with low })
  | .half=>
    let us:=vs.map half
    if lowOk h.objs.length H.low && us.all (fun v=>!v.loose)
    then (oneOrTup us,{ objs:=H.objs.take h.objs.length,tips:=H.tips.take h.tips.length,low:=h.low })
    else (oneOrTup vs,{ H with low })
  | .keepTip=>match vs with
    | .own rows (.tok t s) :: us=>
      let us':=us.map (shutR H h.objs.length)
      if lowOk h.objs.length H.low && us'.all (fun v=>!v.loose) && decide (h.tips.length ≤ t) && (H.tips[t]? == some rows.length)
      then (oneOrTup (.own rows (.tok h.tips.length s) :: us'),{ objs:=H.objs.take h.objs.length,tips:=H.tips.take h.tips.length ++ [rows.length],low:=h.low })
      else (oneOrTup vs,{ H with low })
    | .own rows .exact :: us=>
      let us':=us.map (shutR H h.objs.length)
      if lowOk h.objs.length H.low && us'.all (fun v=>!v.loose)
      then (oneOrTup (.own rows .exact :: us'),{ objs:=H.objs.take h.objs.length,tips:=H.tips.take h.tips.length,low:=h.low })
      else (oneOrTup vs,{ H with low })
    | _=>(oneOrTup vs,{ H with low })
def enter (open_:List Nat):Nat→List HV→Env
  | _,[]=>[]
  | i,v :: vs=>(i,if open_.contains i then v else shut v) :: enter open_ (i + 1) vs
structure HProg where
  funs:FuncId→Option HFun
  ext:FuncId→Option (List HV→St→Option HV)
def runFun (n:Nat) (call:CallT) (f:HFun) (args:List HV) (h:St):Option (HV × St):=
  match exec n call f.code (enter f.open_ 0 args) { h with low:=none } with
  | some (.exit _,_,_)=>none
  | some (_,e,H)=>(results e H f.res).map fun vs=>finish f.pol h vs H
  | none=>none
def callN (p:HProg):Nat→CallT
  | 0,_,_,_=>none
  | n + 1,f,args,h=>
    match p.ext f with
    | some g=>(g args h).map (·,h)
    | none=>match p.funs f with
      | some hf=>runFun n (callN p n) hf args h
      | none=>none
end Am
