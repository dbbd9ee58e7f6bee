/-
  PLAIN LAWS (no program): a heap as a list of cells (kind, colour, two words); a free one is all noughts.
-/
import Derived.WalkKit
namespace Go.Proofs.YtefamhdkfdgdjaaDoor.Cp

structure Cel where
  k : Int
  c : Int
  a : Int
  b : Int
deriving DecidableEq

def free : Cel := ⟨0, 0, 0, 0⟩
/-- A cell that a heap may hold. -/
def OkC (x : Cel) : Prop := x = free ∨ (1 ≤ x.k ∧ x.k ≤ 3 ∧ 0 ≤ x.c ∧ x.c ≤ 2 ∧ 0 ≤ x.a ∧ x.a < 18446744073709551616 ∧ 0 ≤ x.b ∧ x.b < 18446744073709551616)
def get (l : List Cel) (i : Int) : Cel := if 0 ≤ i then l.getD i.toNat free else free
def isC (l : List Cel) (i : Int) : Bool := decide (0 ≤ i) && decide (i < l.length)
def used (l : List Cel) (i : Int) : Bool := isC l i && ((get l i).k != 0)
def headE (l : List Cel) (i : Int) : Int := if isC l i then 0 else 1
def headK (l : List Cel) (i : Int) : Int := if isC l i then (get l i).k else 0
def headC (l : List Cel) (i : Int) : Int := if isC l i then (get l i).c else 0
def turnB (l : List Cel) (i fr to : Int) : Bool := used l i && ((get l i).c == fr) && decide (to ≤ 2)
def turn (l : List Cel) (i fr to : Int) : List Cel := if turnB l i fr to then l.set i.toNat { get l i with c := to } else l
def makeE (l : List Cel) (i k c : Int) : Int := if isC l i then (if k < 1 ∨ 3 < k ∨ 2 < c then 30 else if used l i then 31 else 0) else 1
def make (l : List Cel) (i k c a b : Int) : List Cel := if makeE l i k c = 0 then l.set i.toNat ⟨k, c, a, b⟩ else l
def dropE (l : List Cel) (i : Int) : Int := if isC l i then (if used l i then 0 else 31) else 1
def drop (l : List Cel) (i : Int) : List Cel := if dropE l i = 0 then l.set i.toNat free else l
end Go.Proofs.YtefamhdkfdgdjaaDoor.Cp
