/-
  No cell of these rows narrows 'for every input' (looked for: loops, veiled, ifaces, maps, wideKeys, modest, calm, conditions, laid).
  DERIVED. THE GIVEN ROWS OF THIS SEAT. 4 by the template 'for every input the law returns true; each argument reads behind the call as it read before'; 0 by the template 'total and deterministic' (their statements: YtkcplmablelmbaaTotals.lean).
  GIVEN WITH THE SEED: the statements are not yours to turn. If you find one false, say at which input.
  Laid BY PROGRAM, IN A SANDBOX (cutbox-rows.mjs): the forced cells as the released guide's own fill.sh prints them over the translation f5243221f9238443… (all of the seat's roots in one cut). By AI agents, Wed Nov 11 2026. No macro, syntax, notation, axiom, sorry.
-/
import Derived.Test.YtkcplmablelmbaaChecked
import GoSem.Claim
import GoSem.ClaimJoined
import GoSem.ClaimMapViews
import Derived.JoinedTies
import Derived.KernelRfl
namespace Go.Proofs.Ytkcplmablelmbaa
/- THE CELL 'sum', in the pinned program and in every row, IS THE sha256 OF THE DUMP (.gsa) THAT YtkcplmablelmbaaProg.lean LOADS. Nothing in Lean hashes anything: it is a label: what it is worth is what the hold of that sum in a sandbox is worth. -/
noncomputable def Try.pinned : Pinned := { name := "ytkcplmablelmbaa", sum := "f5243221f923844342217f3725cd2deb5e62b6ae4aa8977bec5ec49e40ca83f6", checked := Try.checked }
namespace Rows
def none {H : Type} : Left H := { results := [], args := [] }

/-- 'dapplelaw16.SweepNumbers': WHATEVER THE INPUT: true; the input reads as it did. -/
def sweepNumbersSpec : ChangeSpec := { name := "sweepNumbers", fn := fun _ => fun
  | [] => { results := [.lit (.bool true)], args := [] }
  | _ => none }
def sweepNumbersRow : OpenClaim := { program := "ytkcplmablelmbaa", sum := "f5243221f923844342217f3725cd2deb5e62b6ae4aa8977bec5ec49e40ca83f6", func := "dapple/dapplelaw16.SweepNumbers", spec := "sweepNumbers", inPlace := ["sync/atomic.CompareAndSwapPointer", "sync/atomic.LoadPointer", "sync/atomic.SwapPointer"], unfollowed := true, recurses := true, apart := false }
def SweepNumbersSaid : Prop := sweepNumbersRow.holds Try.pinned (OpenSpec.ofChange sweepNumbersSpec)

/-- ITS FALSE NEIGHBOUR: 'it returns false'. Refute it at one input. -/
def sweepNumbersWrong : ChangeSpec := { name := "sweepNumbers", fn := fun _ => fun
  | [] => { results := [.lit (.bool false)], args := [] }
  | _ => none }
def SweepNumbersWrongFalsely : Prop := sweepNumbersRow.holds Try.pinned (OpenSpec.ofChange sweepNumbersWrong)

/-- 'dapplelaw16.SweepWhole': WHATEVER THE INPUT: true; the input reads as it did. -/
def sweepWholeSpec : ChangeSpec := { name := "sweepWhole", fn := fun _ => fun
  | [d] => { results := [.lit (.bool true)], args := [d] }
  | _ => none }
def sweepWholeRow : OpenClaim := { program := "ytkcplmablelmbaa", sum := "f5243221f923844342217f3725cd2deb5e62b6ae4aa8977bec5ec49e40ca83f6", func := "dapple/dapplelaw16.SweepWhole", spec := "sweepWhole", inPlace := ["sync/atomic.CompareAndSwapPointer", "sync/atomic.LoadPointer", "sync/atomic.SwapPointer"], unfollowed := true, recurses := true, apart := false }
def SweepWholeSaid : Prop := sweepWholeRow.holds Try.pinned (OpenSpec.ofChange sweepWholeSpec)

/-- ITS FALSE NEIGHBOUR: 'it returns false'. Refute it at one input. -/
def sweepWholeWrong : ChangeSpec := { name := "sweepWhole", fn := fun _ => fun
  | [d] => { results := [.lit (.bool false)], args := [d] }
  | _ => none }
def SweepWholeWrongFalsely : Prop := sweepWholeRow.holds Try.pinned (OpenSpec.ofChange sweepWholeWrong)

/-- 'dapplelaw16.SweepBirths': WHATEVER THE INPUT: true; the input reads as it did. -/
def sweepBirthsSpec : ChangeSpec := { name := "sweepBirths", fn := fun _ => fun
  | [d1, d2] => { results := [.lit (.bool true)], args := [d1, d2] }
  | _ => none }
def sweepBirthsRow : OpenClaim := { program := "ytkcplmablelmbaa", sum := "f5243221f923844342217f3725cd2deb5e62b6ae4aa8977bec5ec49e40ca83f6", func := "dapple/dapplelaw16.SweepBirths", spec := "sweepBirths", inPlace := ["sync/atomic.CompareAndSwapPointer", "sync/atomic.LoadPointer", "sync/atomic.SwapPointer"], unfollowed := true, recurses := true, apart := false }
def SweepBirthsSaid : Prop := sweepBirthsRow.holds Try.pinned (OpenSpec.ofChange sweepBirthsSpec)

/-- ITS FALSE NEIGHBOUR: 'it returns false'. Refute it at one input. -/
def sweepBirthsWrong : ChangeSpec := { name := "sweepBirths", fn := fun _ => fun
  | [d1, d2] => { results := [.lit (.bool false)], args := [d1, d2] }
  | _ => none }
def SweepBirthsWrongFalsely : Prop := sweepBirthsRow.holds Try.pinned (OpenSpec.ofChange sweepBirthsWrong)

/-- 'dapplelaw16.SweepDoes': WHATEVER THE INPUT: true; the input reads as it did. -/
def sweepDoesSpec : ChangeSpec := { name := "sweepDoes", fn := fun _ => fun
  | [d1, d2] => { results := [.lit (.bool true)], args := [d1, d2] }
  | _ => none }
def sweepDoesRow : OpenClaim := { program := "ytkcplmablelmbaa", sum := "f5243221f923844342217f3725cd2deb5e62b6ae4aa8977bec5ec49e40ca83f6", func := "dapple/dapplelaw16.SweepDoes", spec := "sweepDoes", inPlace := ["sync/atomic.CompareAndSwapPointer", "sync/atomic.LoadPointer", "sync/atomic.SwapPointer"], unfollowed := true, recurses := true, apart := false }
def SweepDoesSaid : Prop := sweepDoesRow.holds Try.pinned (OpenSpec.ofChange sweepDoesSpec)

/-- ITS FALSE NEIGHBOUR: 'it returns false'. Refute it at one input. -/
def sweepDoesWrong : ChangeSpec := { name := "sweepDoes", fn := fun _ => fun
  | [d1, d2] => { results := [.lit (.bool false)], args := [d1, d2] }
  | _ => none }
def SweepDoesWrongFalsely : Prop := sweepDoesRow.holds Try.pinned (OpenSpec.ofChange sweepDoesWrong)

/- THE SECOND FORM. 'bulk': how many values and letters a reading holds, each counted each time it is reached (what is shared counts as often as it is met; a slice's spare places count too). A statement '..UptoSaid' is the law's where the arguments, and the package variables that the reading takes, are together of bulk at most 1048576: NARROWER than '..Said'. Prove '..Said' where nothing that the law and all that it calls make is longer than what came in: it says more and counts as full. Else prove '..UptoSaid'. A law counts once. -/
mutual
def uptoBulk {H : Type} : DataW H → Nat
  | .lit (.string bytes) => bytes.length + 1
  | .lit _ => 1
  | .nil => 1
  | .ptr d => uptoBulk d + 1
  | .slice elems spare => uptoBulkAll elems + uptoBulkAll spare + 1
  | .agg parts => uptoBulkAll parts + 1
  | .iface _ d => uptoBulk d + 1
  | .map entries => uptoBulkEntries entries + 1
  | .held _ => 1
def uptoBulkAll {H : Type} : List (DataW H) → Nat
  | [] => 0
  | d :: r => uptoBulk d + uptoBulkAll r
def uptoBulkEntries {H : Type} : List (Lit × DataW H) → Nat
  | [] => 0
  | x :: r => uptoBulkEntry x + uptoBulkEntries r
def uptoBulkEntry {H : Type} : Lit × DataW H → Nat
  | (.string bytes, d) => bytes.length + uptoBulk d + 1
  | (_, d) => uptoBulk d + 1
 end
def uptoSmall : (H : Type) → List (DataW H) → Bool := fun _ ds => decide (uptoBulkAll ds ≤ 1048576)
def OpenSpec.upto (s : _root_.Go.ChangeSpec) : _root_.Go.OpenSpec := { _root_.Go.OpenSpec.ofChange s with cond := some uptoSmall }

/-- 'dapplelaw16.SweepNumbers', WHERE WHAT IT READS IS OF BULK AT MOST 1048576: true; the input reads as it did. -/
def sweepNumbersUptoRow : OpenClaim := { program := "ytkcplmablelmbaa", sum := "f5243221f923844342217f3725cd2deb5e62b6ae4aa8977bec5ec49e40ca83f6", func := "dapple/dapplelaw16.SweepNumbers", spec := "sweepNumbers", inPlace := ["sync/atomic.CompareAndSwapPointer", "sync/atomic.LoadPointer", "sync/atomic.SwapPointer"], unfollowed := true, recurses := true, apart := false, narrowed := true }
def SweepNumbersUptoSaid : Prop := sweepNumbersUptoRow.holds Try.pinned (OpenSpec.upto sweepNumbersSpec)

/-- 'dapplelaw16.SweepWhole', WHERE WHAT IT READS IS OF BULK AT MOST 1048576: true; the input reads as it did. -/
def sweepWholeUptoRow : OpenClaim := { program := "ytkcplmablelmbaa", sum := "f5243221f923844342217f3725cd2deb5e62b6ae4aa8977bec5ec49e40ca83f6", func := "dapple/dapplelaw16.SweepWhole", spec := "sweepWhole", inPlace := ["sync/atomic.CompareAndSwapPointer", "sync/atomic.LoadPointer", "sync/atomic.SwapPointer"], unfollowed := true, recurses := true, apart := false, narrowed := true }
def SweepWholeUptoSaid : Prop := sweepWholeUptoRow.holds Try.pinned (OpenSpec.upto sweepWholeSpec)

/-- 'dapplelaw16.SweepBirths', WHERE WHAT IT READS IS OF BULK AT MOST 1048576: true; the input reads as it did. -/
def sweepBirthsUptoRow : OpenClaim := { program := "ytkcplmablelmbaa", sum := "f5243221f923844342217f3725cd2deb5e62b6ae4aa8977bec5ec49e40ca83f6", func := "dapple/dapplelaw16.SweepBirths", spec := "sweepBirths", inPlace := ["sync/atomic.CompareAndSwapPointer", "sync/atomic.LoadPointer", "sync/atomic.SwapPointer"], unfollowed := true, recurses := true, apart := false, narrowed := true }
def SweepBirthsUptoSaid : Prop := sweepBirthsUptoRow.holds Try.pinned (OpenSpec.upto sweepBirthsSpec)

/-- 'dapplelaw16.SweepDoes', WHERE WHAT IT READS IS OF BULK AT MOST 1048576: true; the input reads as it did. -/
def sweepDoesUptoRow : OpenClaim := { program := "ytkcplmablelmbaa", sum := "f5243221f923844342217f3725cd2deb5e62b6ae4aa8977bec5ec49e40ca83f6", func := "dapple/dapplelaw16.SweepDoes", spec := "sweepDoes", inPlace := ["sync/atomic.CompareAndSwapPointer", "sync/atomic.LoadPointer", "sync/atomic.SwapPointer"], unfollowed := true, recurses := true, apart := false, narrowed := true }
def SweepDoesUptoSaid : Prop := sweepDoesUptoRow.holds Try.pinned (OpenSpec.upto sweepDoesSpec)

end Rows
end Go.Proofs.Ytkcplmablelmbaa
