/- A part of the proof of BuildAgain: no condition of its own. Whence: AmExt. -/
import Derived.Test.YtgepkelfblhpnaaGreatDoorA01
set_option linter.all false
namespace Am
open Go
def isU8:List D→Bool
  | [.int .u8 n]=>decide (0 ≤ n) && decide (n < 256)
  | _=>false
def u8rows (w n:Nat):List (List D):=(List.range w).map fun i=>[.int .u8 ((n / 256 ^ i % 256:Nat):Int)]
def putR (rows:List (List D)) (w n:Int):HV:=
  if w < 1 ∨ 8 < w then .tup [.own [] .exact,.d (.int .i64 1)]
  else if w < 8 ∧ n.toNat / 256 ^ w.toNat ≠ 0 then .tup [.own [] .exact,.d (.int .i64 3)]
  else .tup [.own (rows ++ u8rows w.toNat n.toNat) .exact,.d (.int .i64 0)]
def putX:List HV→St→Option HV
  | [b,.d (.int .i64 w),.d (.int .u64 n)],_=>match shut b with
    | .d (.sl rows)=>if rows.all isU8 = true ∧ rows.length ≤ 1000000 ∧ 0 ≤ n ∧ n < 18446744073709551616 then some (putR rows w n) else none
    | _=>none
  | _,_=>none
def hitM (es:List (List D × List D)) (nm:List UInt8):Bool:=match findKey [.s] [.str nm] es 0 with
  | some (some (_,[.int .i64 c]))=>decide (0 < c)
  | _=>false
def reachF (hit:List UInt8→Bool):Nat→List (List D)→Option (Bool × Nat)
  | _,[]=>some (false,0)
  | 0,_ :: _=>none
  | n + 1,r :: rs=>match r with
    | [.int .i64 k,.int .i32 _,.str nm,.sl subs]=>if k = 7 ∧ subs = [] then none else
      match reachF hit n (if k = 7 then subs.take 1 else subs),reachF hit n rs with
      | some (a,i),some (b,j)=>some (hit nm || (a || b),i + j + 1)
      | _,_=>none
    | _=>none
def reachX:List HV→St→Option HV
  | [.map o,x],H=>match H.objs[o]?,shut x with
    | some (.map false false es _),.agg [.d a,.d b,.d c,.d d]=>if es.all (fun e=>match e with | ([.str _],[.int .i64 _])=>true | _=>false) = true then
        match reachF (hitM es) 2000 [[a,b,c,d]] with
        | some (t,i)=>if i ≤ 100000 then some (.d (.bool t)) else none
        | none=>none
      else none
    | _,_=>none
  | _,_=>none
def extOf (f:Nat):Option (List HV→St→Option HV):=if f = 99 then some putX else if f = 258 then some reachX else none
end Am
