/- What package prod's table does, as plain functions. No condition. -/
import Derived.Test.YtnnoicacpcahfaaProdRep
namespace Go.Proofs.Ytnnoicacpcahfaa
open Go

/-- A batch as the machine hands it over. -/
structure Bt where
  base : Int
  ep : Int
  pid : Int
  pe : Int
  sq : Int
  txn : Bool
  ctl : Bool
  com : Bool
  va : Option Addr
  vn : Nat
  vc : Nat
def Bt.cells (b : Bt) : List Value := [.int .i64 b.base, .int .i64 b.ep, .int .u64 b.pid, .int .i64 b.pe, .int .i64 b.sq, .bool b.txn, .bool b.ctl, .bool b.com, .slice b.va b.vn b.vc]
def Bt.val (b : Bt) : Value := .agg b.cells.toArray
def Bt.size (b : Bt) : Int := if b.ctl then 1 else b.vn

def Prod.raise (p : Prod) (b : Bt) : Prod := if p.epoch < b.pe then ⟨b.pe, 0, [], p.opn⟩ else p
def last5 (l : List Seen) : List Seen := if 5 < l.length then l.drop 1 else l
def Prod.step (p : Prod) (b : Bt) : Prod := ⟨p.epoch, IntKind.i64.wrap (b.sq + b.vn), last5 (p.last ++ [⟨b.sq, b.vn, b.base⟩]), if b.txn && decide (p.opn < 0) then b.base else p.opn⟩
def Tab.ensure (T : Tab) (b : Bt) : Tab := if b.pid ∈ T.keys then T else T.add b.pid ⟨b.pe, 0, [], -1⟩
def Tab.mark (T : Tab) (b : Bt) (p : Prod) : Tab :=
  (if 0 ≤ p.opn ∧ b.com = false then T.abort ⟨b.pid, p.opn, b.base⟩ else T).set b.pid ⟨p.epoch, p.next, p.last, -1⟩
def Tab.apply (T : Tab) (b : Bt) : Tab :=
  if b.pid = 0 then T else
  let T1 := T.ensure b
  let p := (T1.prod b.pid).raise b
  let T2 := T1.set b.pid p
  if b.ctl then T2.mark b p else T2.set b.pid (p.step b)
end Go.Proofs.Ytnnoicacpcahfaa
