/-
  NARROWER THAN 'FOR EVERY INPUT', by the rows' own cells (each row's printed sentence says how): MarkNumbers: laid · MarkDoes: laid · MarkReach: laid.
  DERIVED. THE GIVEN ROWS OF THIS SEAT. 3 by the template 'for every input the law returns true; each argument reads behind the call as it read before'; 0 by the template 'total and deterministic' (their statements: YtefamhdkfdgdjaaDoorTotals.lean).
  GIVEN WITH THE SEED: the statements are not yours to turn. If you find one false, say at which input.
  Laid BY PROGRAM, IN A SANDBOX (cutbox-rows.mjs): the forced cells as the released guide's own fill.sh prints them over the translation 2129521ec78bbe5d… (all of the seat's roots in one cut). By AI agents, Wed Nov 11 2026. No macro, syntax, notation, axiom, sorry.
-/
import Derived.Test.YtefamhdkfdgdjaaDoorChecked
import GoSem.Claim
import GoSem.ClaimJoined
import GoSem.ClaimMapViews
import Derived.JoinedTies
import Derived.KernelRfl
namespace Go.Proofs.YtefamhdkfdgdjaaDoor
/- THE CELL 'sum', in the pinned program and in every row, IS THE sha256 OF THE DUMP (.gsa) THAT YtefamhdkfdgdjaaDoorProg.lean LOADS. Nothing in Lean hashes anything: it is a label: what it is worth is what the hold of that sum in a sandbox is worth. -/
noncomputable def Tryd.pinned : Pinned := { name := "ytefamhdkfdgdjaadoor", sum := "2129521ec78bbe5d0938ed32c5e00d0aab214ec6888c8c0166b6fa7366d3489a", checked := Tryd.checked }
namespace Rows
def none {H : Type} : Left H := { results := [], args := [] }

/- WHAT THE LISTED PACKAGE-LEVEL VARIABLES READ AS WHEN THE CALL BEGINS. Each datum BY PROGRAM (the guide's laid-datum.mjs) off the statement by which the dump's own 'gosem.cut.vars' lays the variable. In a bare row this is a premise. The card (YtefamhdkfdgdjaaDoorCards.lean) ties it to the program's text. -/
def laid_dapple_words_bounds {H : Type} : DataW H := .agg [.agg [.lit (.int .i64 0), .lit (.int .i64 0)], .agg [.lit (.int .i64 0), .lit (.int .i64 0)], .agg [.lit (.int .i64 0), .lit (.int .i64 0)], .agg [.lit (.int .i64 0), .lit (.int .i64 0)], .agg [.lit (.int .i64 0), .lit (.int .i64 0)], .agg [.lit (.int .i64 (-576460752303423488)), .lit (.int .i64 576460752303423487)], .agg [.lit (.int .i64 0), .lit (.int .i64 2147483647)], .agg [.lit (.int .i64 1), .lit (.int .i64 22)], .agg [.lit (.int .i64 0), .lit (.int .i64 2147483647)]]

/-- 'dapplelaw15.MarkNumbers': WHATEVER THE INPUT: true; the input reads as it did. -/
def markNumbersSpec : ChangeSpec := { name := "markNumbers", fn := fun _ => fun
  | [] => { results := [.lit (.bool true)], args := [] }
  | _ => none }
def markNumbersRow : OpenClaim := { program := "ytefamhdkfdgdjaadoor", sum := "2129521ec78bbe5d0938ed32c5e00d0aab214ec6888c8c0166b6fa7366d3489a", func := "dapple/dapplelaw15.MarkNumbers", spec := "markNumbers", inPlace := ["sync/atomic.CompareAndSwapPointer", "sync/atomic.LoadPointer"], unfollowed := true, recurses := true, named := ["dapple/words.bounds"], apart := false, laid := [("dapple/words.bounds", laid_dapple_words_bounds)] }
def MarkNumbersSaid : Prop := markNumbersRow.holds Tryd.pinned (OpenSpec.ofChange markNumbersSpec)

/-- ITS FALSE NEIGHBOUR: 'it returns false'. Refute it at one input. -/
def markNumbersWrong : ChangeSpec := { name := "markNumbers", fn := fun _ => fun
  | [] => { results := [.lit (.bool false)], args := [] }
  | _ => none }
def MarkNumbersWrongFalsely : Prop := markNumbersRow.holds Tryd.pinned (OpenSpec.ofChange markNumbersWrong)

/-- 'dapplelaw15.MarkDoes': WHATEVER THE INPUT: true; the input reads as it did. -/
def markDoesSpec : ChangeSpec := { name := "markDoes", fn := fun _ => fun
  | [d1, d2] => { results := [.lit (.bool true)], args := [d1, d2] }
  | _ => none }
def markDoesRow : OpenClaim := { program := "ytefamhdkfdgdjaadoor", sum := "2129521ec78bbe5d0938ed32c5e00d0aab214ec6888c8c0166b6fa7366d3489a", func := "dapple/dapplelaw15.MarkDoes", spec := "markDoes", inPlace := ["sync/atomic.CompareAndSwapPointer", "sync/atomic.LoadPointer", "sync/atomic.SwapPointer"], unfollowed := true, recurses := true, named := ["dapple/words.bounds"], apart := false, laid := [("dapple/words.bounds", laid_dapple_words_bounds)] }
def MarkDoesSaid : Prop := markDoesRow.holds Tryd.pinned (OpenSpec.ofChange markDoesSpec)

/-- ITS FALSE NEIGHBOUR: 'it returns false'. Refute it at one input. -/
def markDoesWrong : ChangeSpec := { name := "markDoes", fn := fun _ => fun
  | [d1, d2] => { results := [.lit (.bool false)], args := [d1, d2] }
  | _ => none }
def MarkDoesWrongFalsely : Prop := markDoesRow.holds Tryd.pinned (OpenSpec.ofChange markDoesWrong)

/-- 'dapplelaw15.MarkReach': WHATEVER THE INPUT: true; the input reads as it did. -/
def markReachSpec : ChangeSpec := { name := "markReach", fn := fun _ => fun
  | [d1, d2, d3, d4] => { results := [.lit (.bool true)], args := [d1, d2, d3, d4] }
  | _ => none }
def markReachRow : OpenClaim := { program := "ytefamhdkfdgdjaadoor", sum := "2129521ec78bbe5d0938ed32c5e00d0aab214ec6888c8c0166b6fa7366d3489a", func := "dapple/dapplelaw15.MarkReach", spec := "markReach", inPlace := ["sync/atomic.CompareAndSwapPointer", "sync/atomic.LoadPointer"], unfollowed := true, recurses := true, named := ["dapple/words.bounds"], apart := false, laid := [("dapple/words.bounds", laid_dapple_words_bounds)] }
def MarkReachSaid : Prop := markReachRow.holds Tryd.pinned (OpenSpec.ofChange markReachSpec)

/-- ITS FALSE NEIGHBOUR: 'it returns false'. Refute it at one input. -/
def markReachWrong : ChangeSpec := { name := "markReach", fn := fun _ => fun
  | [d1, d2, d3, d4] => { results := [.lit (.bool false)], args := [d1, d2, d3, d4] }
  | _ => none }
def MarkReachWrongFalsely : Prop := markReachRow.holds Tryd.pinned (OpenSpec.ofChange markReachWrong)

/- THE SECOND FORM. 'bulk': how many values and letters a reading holds, each counted each time it is reached (what is shared counts as often as it is met; a slice's spare places count too). A statement '..UptoSaid' is the law's where the arguments, and the package variables that the reading takes, are together of bulk at most 1048576: NARROWER than '..Said'. Prove '..Said' where nothing that the law and all that it calls make is longer than what came in: it says more and counts as full. Else prove '..UptoSaid'. A law counts once. -/
mutual
def uptoBulk {H : Type} : DataW H → Nat
  | .lit (.string bytes) => bytes.length + 1
  | .lit _ => 1
  | .nil => 1
  | .ptr d => uptoBulk d + 1
  | .slice elems spare => uptoBulkAll elems + uptoBulkAll spare + 1
  | .agg parts => uptoBulkAll parts + 1
  | .iface _ d => uptoBulk d + 1
  | .map entries => uptoBulkEntries entries + 1
  | .held _ => 1
def uptoBulkAll {H : Type} : List (DataW H) → Nat
  | [] => 0
  | d :: r => uptoBulk d + uptoBulkAll r
def uptoBulkEntries {H : Type} : List (Lit × DataW H) → Nat
  | [] => 0
  | x :: r => uptoBulkEntry x + uptoBulkEntries r
def uptoBulkEntry {H : Type} : Lit × DataW H → Nat
  | (.string bytes, d) => bytes.length + uptoBulk d + 1
  | (_, d) => uptoBulk d + 1
 end
def uptoSmall : (H : Type) → List (DataW H) → Bool := fun _ ds => decide (uptoBulkAll ds ≤ 1048576)
def OpenSpec.upto (s : _root_.Go.ChangeSpec) : _root_.Go.OpenSpec := { _root_.Go.OpenSpec.ofChange s with cond := some uptoSmall }

/-- 'dapplelaw15.MarkNumbers', WHERE WHAT IT READS IS OF BULK AT MOST 1048576: true; the input reads as it did. -/
def markNumbersUptoRow : OpenClaim := { program := "ytefamhdkfdgdjaadoor", sum := "2129521ec78bbe5d0938ed32c5e00d0aab214ec6888c8c0166b6fa7366d3489a", func := "dapple/dapplelaw15.MarkNumbers", spec := "markNumbers", inPlace := ["sync/atomic.CompareAndSwapPointer", "sync/atomic.LoadPointer"], unfollowed := true, recurses := true, named := ["dapple/words.bounds"], apart := false, laid := [("dapple/words.bounds", laid_dapple_words_bounds)], narrowed := true }
def MarkNumbersUptoSaid : Prop := markNumbersUptoRow.holds Tryd.pinned (OpenSpec.upto markNumbersSpec)

/-- 'dapplelaw15.MarkDoes', WHERE WHAT IT READS IS OF BULK AT MOST 1048576: true; the input reads as it did. -/
def markDoesUptoRow : OpenClaim := { program := "ytefamhdkfdgdjaadoor", sum := "2129521ec78bbe5d0938ed32c5e00d0aab214ec6888c8c0166b6fa7366d3489a", func := "dapple/dapplelaw15.MarkDoes", spec := "markDoes", inPlace := ["sync/atomic.CompareAndSwapPointer", "sync/atomic.LoadPointer", "sync/atomic.SwapPointer"], unfollowed := true, recurses := true, named := ["dapple/words.bounds"], apart := false, laid := [("dapple/words.bounds", laid_dapple_words_bounds)], narrowed := true }
def MarkDoesUptoSaid : Prop := markDoesUptoRow.holds Tryd.pinned (OpenSpec.upto markDoesSpec)

/-- 'dapplelaw15.MarkReach', WHERE WHAT IT READS IS OF BULK AT MOST 1048576: true; the input reads as it did. -/
def markReachUptoRow : OpenClaim := { program := "ytefamhdkfdgdjaadoor", sum := "2129521ec78bbe5d0938ed32c5e00d0aab214ec6888c8c0166b6fa7366d3489a", func := "dapple/dapplelaw15.MarkReach", spec := "markReach", inPlace := ["sync/atomic.CompareAndSwapPointer", "sync/atomic.LoadPointer"], unfollowed := true, recurses := true, named := ["dapple/words.bounds"], apart := false, laid := [("dapple/words.bounds", laid_dapple_words_bounds)], narrowed := true }
def MarkReachUptoSaid : Prop := markReachUptoRow.holds Tryd.pinned (OpenSpec.upto markReachSpec)

end Rows
end Go.Proofs.YtefamhdkfdgdjaaDoor
