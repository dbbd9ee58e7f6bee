/-
  PLAIN LAWS (no program): a step of the sweep.
-/
import Derived.Test.YtkcplmablelmbaaCellsPure
namespace Go.Proofs.Ytkcplmablelmbaa.Sw
open Go.Proofs.Ytkcplmablelmbaa.Cp

/-- What a step of the sweep does at a: 0 refused; 1 over a free one; 2 given back; 3 made white. -/
def way (l : List Cel) (a : Nat) : Nat := if a < l.length then (if (l.getD a free).k = 0 then 1 else if (l.getD a free).c = 1 then 0 else if (l.getD a free).c = 0 then 2 else 3) else 0
def cellOf (l : List Cel) (a : Nat) : Int := if way l a = 0 then 0 else a
def errOf (l : List Cel) (a : Nat) : Int := if way l a = 0 then 160 else 0
def backOf (l : List Cel) (a : Nat) : Bool := way l a == 2
def atOf (l : List Cel) (a : Nat) : Nat := if way l a = 0 then a else a + 1
def freedOf (l : List Cel) (a f : Nat) : Nat := if way l a = 2 then f + 1 else f
def next (l : List Cel) (a : Nat) : List Cel := if way l a = 2 then l.set a free else if way l a = 3 then l.set a { l.getD a free with c := 0 } else l
end Go.Proofs.Ytkcplmablelmbaa.Sw
