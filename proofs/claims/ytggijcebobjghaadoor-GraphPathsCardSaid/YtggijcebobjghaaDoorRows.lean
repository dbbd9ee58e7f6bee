/-
  NARROWER THAN 'FOR EVERY INPUT', by the rows' own cells (each row's printed sentence says how): GraphNumbers: laid · GraphReaches: laid · GraphPaths: laid · GraphCloses: laid · GraphForms: laid.
  DERIVED. THE GIVEN ROWS OF THIS SEAT. 5 by the template 'for every input the law returns true; each argument reads behind the call as it read before'; 0 by the template 'total and deterministic' (their statements: YtggijcebobjghaaDoorTotals.lean).
  GIVEN WITH THE SEED: the statements are not yours to turn. If you find one false, say at which input.
  Laid BY PROGRAM, IN A SANDBOX (cutbox-rows.mjs): the forced cells as the released guide's own fill.sh prints them over the translation 7193beb6cc2296b4… (all of the seat's roots in one cut). By AI agents, Wed Nov 11 2026. No macro, syntax, notation, axiom, sorry.
-/
import Derived.Test.YtggijcebobjghaaDoorChecked
import GoSem.Claim
import GoSem.ClaimJoined
import GoSem.ClaimMapViews
import Derived.JoinedTies
import Derived.KernelRfl
namespace Go.Proofs.YtggijcebobjghaaDoor
/- THE CELL 'sum', in the pinned program and in every row, IS THE sha256 OF THE DUMP (.gsa) THAT YtggijcebobjghaaDoorProg.lean LOADS. Nothing in Lean hashes anything: it is a label: what it is worth is what the hold of that sum in a sandbox is worth. -/
noncomputable def Tryd.pinned : Pinned := { name := "ytggijcebobjghaadoor", sum := "7193beb6cc2296b4a227db14dcbc46522693c1ca7de68dfd5763a2c88b862cfd", checked := Tryd.checked }
namespace Rows
def none {H : Type} : Left H := { results := [], args := [] }

/- WHAT THE LISTED PACKAGE-LEVEL VARIABLES READ AS WHEN THE CALL BEGINS. Each datum BY PROGRAM (the guide's laid-datum.mjs) off the statement by which the dump's own 'gosem.cut.vars' lays the variable. In a bare row this is a premise. The card (YtggijcebobjghaaDoorCards.lean) ties it to the program's text. -/
def laid_dapple_words_bounds {H : Type} : DataW H := .agg [.agg [.lit (.int .i64 0), .lit (.int .i64 0)], .agg [.lit (.int .i64 0), .lit (.int .i64 0)], .agg [.lit (.int .i64 0), .lit (.int .i64 0)], .agg [.lit (.int .i64 0), .lit (.int .i64 0)], .agg [.lit (.int .i64 0), .lit (.int .i64 0)], .agg [.lit (.int .i64 (-576460752303423488)), .lit (.int .i64 576460752303423487)], .agg [.lit (.int .i64 0), .lit (.int .i64 2147483647)], .agg [.lit (.int .i64 1), .lit (.int .i64 22)], .agg [.lit (.int .i64 0), .lit (.int .i64 2147483647)]]

/-- 'dapplelaw10.GraphNumbers': WHATEVER THE INPUT: true; the input reads as it did. -/
def graphNumbersSpec : ChangeSpec := { name := "graphNumbers", fn := fun _ => fun
  | [] => { results := [.lit (.bool true)], args := [] }
  | _ => none }
def graphNumbersRow : OpenClaim := { program := "ytggijcebobjghaadoor", sum := "7193beb6cc2296b4a227db14dcbc46522693c1ca7de68dfd5763a2c88b862cfd", func := "dapple/dapplelaw10.GraphNumbers", spec := "graphNumbers", unfollowed := true, recurses := true, named := ["dapple/words.bounds"], apart := false, laid := [("dapple/words.bounds", laid_dapple_words_bounds)] }
def GraphNumbersSaid : Prop := graphNumbersRow.holds Tryd.pinned (OpenSpec.ofChange graphNumbersSpec)

/-- ITS FALSE NEIGHBOUR: 'it returns false'. Refute it at one input. -/
def graphNumbersWrong : ChangeSpec := { name := "graphNumbers", fn := fun _ => fun
  | [] => { results := [.lit (.bool false)], args := [] }
  | _ => none }
def GraphNumbersWrongFalsely : Prop := graphNumbersRow.holds Tryd.pinned (OpenSpec.ofChange graphNumbersWrong)

/-- 'dapplelaw10.GraphReaches': WHATEVER THE INPUT: true; the input reads as it did. -/
def graphReachesSpec : ChangeSpec := { name := "graphReaches", fn := fun _ => fun
  | [d1, d2] => { results := [.lit (.bool true)], args := [d1, d2] }
  | _ => none }
def graphReachesRow : OpenClaim := { program := "ytggijcebobjghaadoor", sum := "7193beb6cc2296b4a227db14dcbc46522693c1ca7de68dfd5763a2c88b862cfd", func := "dapple/dapplelaw10.GraphReaches", spec := "graphReaches", unfollowed := true, recurses := true, named := ["dapple/words.bounds"], apart := false, laid := [("dapple/words.bounds", laid_dapple_words_bounds)] }
def GraphReachesSaid : Prop := graphReachesRow.holds Tryd.pinned (OpenSpec.ofChange graphReachesSpec)

/-- ITS FALSE NEIGHBOUR: 'it returns false'. Refute it at one input. -/
def graphReachesWrong : ChangeSpec := { name := "graphReaches", fn := fun _ => fun
  | [d1, d2] => { results := [.lit (.bool false)], args := [d1, d2] }
  | _ => none }
def GraphReachesWrongFalsely : Prop := graphReachesRow.holds Tryd.pinned (OpenSpec.ofChange graphReachesWrong)

/-- 'dapplelaw10.GraphPaths': WHATEVER THE INPUT: true; the input reads as it did. -/
def graphPathsSpec : ChangeSpec := { name := "graphPaths", fn := fun _ => fun
  | [d1, d2, d3] => { results := [.lit (.bool true)], args := [d1, d2, d3] }
  | _ => none }
def graphPathsRow : OpenClaim := { program := "ytggijcebobjghaadoor", sum := "7193beb6cc2296b4a227db14dcbc46522693c1ca7de68dfd5763a2c88b862cfd", func := "dapple/dapplelaw10.GraphPaths", spec := "graphPaths", unfollowed := true, recurses := true, named := ["dapple/words.bounds"], apart := false, laid := [("dapple/words.bounds", laid_dapple_words_bounds)] }
def GraphPathsSaid : Prop := graphPathsRow.holds Tryd.pinned (OpenSpec.ofChange graphPathsSpec)

/-- ITS FALSE NEIGHBOUR: 'it returns false'. Refute it at one input. -/
def graphPathsWrong : ChangeSpec := { name := "graphPaths", fn := fun _ => fun
  | [d1, d2, d3] => { results := [.lit (.bool false)], args := [d1, d2, d3] }
  | _ => none }
def GraphPathsWrongFalsely : Prop := graphPathsRow.holds Tryd.pinned (OpenSpec.ofChange graphPathsWrong)

/-- 'dapplelaw10.GraphCloses': WHATEVER THE INPUT: true; the input reads as it did. -/
def graphClosesSpec : ChangeSpec := { name := "graphCloses", fn := fun _ => fun
  | [d1, d2] => { results := [.lit (.bool true)], args := [d1, d2] }
  | _ => none }
def graphClosesRow : OpenClaim := { program := "ytggijcebobjghaadoor", sum := "7193beb6cc2296b4a227db14dcbc46522693c1ca7de68dfd5763a2c88b862cfd", func := "dapple/dapplelaw10.GraphCloses", spec := "graphCloses", unfollowed := true, recurses := true, named := ["dapple/words.bounds"], apart := false, laid := [("dapple/words.bounds", laid_dapple_words_bounds)] }
def GraphClosesSaid : Prop := graphClosesRow.holds Tryd.pinned (OpenSpec.ofChange graphClosesSpec)

/-- ITS FALSE NEIGHBOUR: 'it returns false'. Refute it at one input. -/
def graphClosesWrong : ChangeSpec := { name := "graphCloses", fn := fun _ => fun
  | [d1, d2] => { results := [.lit (.bool false)], args := [d1, d2] }
  | _ => none }
def GraphClosesWrongFalsely : Prop := graphClosesRow.holds Tryd.pinned (OpenSpec.ofChange graphClosesWrong)

/-- 'dapplelaw10.GraphForms': WHATEVER THE INPUT: true; the input reads as it did. -/
def graphFormsSpec : ChangeSpec := { name := "graphForms", fn := fun _ => fun
  | [d] => { results := [.lit (.bool true)], args := [d] }
  | _ => none }
def graphFormsRow : OpenClaim := { program := "ytggijcebobjghaadoor", sum := "7193beb6cc2296b4a227db14dcbc46522693c1ca7de68dfd5763a2c88b862cfd", func := "dapple/dapplelaw10.GraphForms", spec := "graphForms", unfollowed := true, recurses := true, named := ["dapple/words.bounds"], apart := false, laid := [("dapple/words.bounds", laid_dapple_words_bounds)] }
def GraphFormsSaid : Prop := graphFormsRow.holds Tryd.pinned (OpenSpec.ofChange graphFormsSpec)

/-- ITS FALSE NEIGHBOUR: 'it returns false'. Refute it at one input. -/
def graphFormsWrong : ChangeSpec := { name := "graphForms", fn := fun _ => fun
  | [d] => { results := [.lit (.bool false)], args := [d] }
  | _ => none }
def GraphFormsWrongFalsely : Prop := graphFormsRow.holds Tryd.pinned (OpenSpec.ofChange graphFormsWrong)

/- THE SECOND FORM. 'bulk': how many values and letters a reading holds, each counted each time it is reached (what is shared counts as often as it is met; a slice's spare places count too). A statement '..UptoSaid' is the law's where the arguments, and the package variables that the reading takes, are together of bulk at most 1048576: NARROWER than '..Said'. Prove '..Said' where nothing that the law and all that it calls make is longer than what came in: it says more and counts as full. Else prove '..UptoSaid'. A law counts once. -/
mutual
def uptoBulk {H : Type} : DataW H → Nat
  | .lit (.string bytes) => bytes.length + 1
  | .lit _ => 1
  | .nil => 1
  | .ptr d => uptoBulk d + 1
  | .slice elems spare => uptoBulkAll elems + uptoBulkAll spare + 1
  | .agg parts => uptoBulkAll parts + 1
  | .iface _ d => uptoBulk d + 1
  | .map entries => uptoBulkEntries entries + 1
  | .held _ => 1
def uptoBulkAll {H : Type} : List (DataW H) → Nat
  | [] => 0
  | d :: r => uptoBulk d + uptoBulkAll r
def uptoBulkEntries {H : Type} : List (Lit × DataW H) → Nat
  | [] => 0
  | x :: r => uptoBulkEntry x + uptoBulkEntries r
def uptoBulkEntry {H : Type} : Lit × DataW H → Nat
  | (.string bytes, d) => bytes.length + uptoBulk d + 1
  | (_, d) => uptoBulk d + 1
 end
def uptoSmall : (H : Type) → List (DataW H) → Bool := fun _ ds => decide (uptoBulkAll ds ≤ 1048576)
def OpenSpec.upto (s : _root_.Go.ChangeSpec) : _root_.Go.OpenSpec := { _root_.Go.OpenSpec.ofChange s with cond := some uptoSmall }

/-- 'dapplelaw10.GraphNumbers', WHERE WHAT IT READS IS OF BULK AT MOST 1048576: true; the input reads as it did. -/
def graphNumbersUptoRow : OpenClaim := { program := "ytggijcebobjghaadoor", sum := "7193beb6cc2296b4a227db14dcbc46522693c1ca7de68dfd5763a2c88b862cfd", func := "dapple/dapplelaw10.GraphNumbers", spec := "graphNumbers", unfollowed := true, recurses := true, named := ["dapple/words.bounds"], apart := false, laid := [("dapple/words.bounds", laid_dapple_words_bounds)], narrowed := true }
def GraphNumbersUptoSaid : Prop := graphNumbersUptoRow.holds Tryd.pinned (OpenSpec.upto graphNumbersSpec)

/-- 'dapplelaw10.GraphReaches', WHERE WHAT IT READS IS OF BULK AT MOST 1048576: true; the input reads as it did. -/
def graphReachesUptoRow : OpenClaim := { program := "ytggijcebobjghaadoor", sum := "7193beb6cc2296b4a227db14dcbc46522693c1ca7de68dfd5763a2c88b862cfd", func := "dapple/dapplelaw10.GraphReaches", spec := "graphReaches", unfollowed := true, recurses := true, named := ["dapple/words.bounds"], apart := false, laid := [("dapple/words.bounds", laid_dapple_words_bounds)], narrowed := true }
def GraphReachesUptoSaid : Prop := graphReachesUptoRow.holds Tryd.pinned (OpenSpec.upto graphReachesSpec)

/-- 'dapplelaw10.GraphPaths', WHERE WHAT IT READS IS OF BULK AT MOST 1048576: true; the input reads as it did. -/
def graphPathsUptoRow : OpenClaim := { program := "ytggijcebobjghaadoor", sum := "7193beb6cc2296b4a227db14dcbc46522693c1ca7de68dfd5763a2c88b862cfd", func := "dapple/dapplelaw10.GraphPaths", spec := "graphPaths", unfollowed := true, recurses := true, named := ["dapple/words.bounds"], apart := false, laid := [("dapple/words.bounds", laid_dapple_words_bounds)], narrowed := true }
def GraphPathsUptoSaid : Prop := graphPathsUptoRow.holds Tryd.pinned (OpenSpec.upto graphPathsSpec)

/-- 'dapplelaw10.GraphCloses', WHERE WHAT IT READS IS OF BULK AT MOST 1048576: true; the input reads as it did. -/
def graphClosesUptoRow : OpenClaim := { program := "ytggijcebobjghaadoor", sum := "7193beb6cc2296b4a227db14dcbc46522693c1ca7de68dfd5763a2c88b862cfd", func := "dapple/dapplelaw10.GraphCloses", spec := "graphCloses", unfollowed := true, recurses := true, named := ["dapple/words.bounds"], apart := false, laid := [("dapple/words.bounds", laid_dapple_words_bounds)], narrowed := true }
def GraphClosesUptoSaid : Prop := graphClosesUptoRow.holds Tryd.pinned (OpenSpec.upto graphClosesSpec)

/-- 'dapplelaw10.GraphForms', WHERE WHAT IT READS IS OF BULK AT MOST 1048576: true; the input reads as it did. -/
def graphFormsUptoRow : OpenClaim := { program := "ytggijcebobjghaadoor", sum := "7193beb6cc2296b4a227db14dcbc46522693c1ca7de68dfd5763a2c88b862cfd", func := "dapple/dapplelaw10.GraphForms", spec := "graphForms", unfollowed := true, recurses := true, named := ["dapple/words.bounds"], apart := false, laid := [("dapple/words.bounds", laid_dapple_words_bounds)], narrowed := true }
def GraphFormsUptoSaid : Prop := graphFormsUptoRow.holds Tryd.pinned (OpenSpec.upto graphFormsSpec)

end Rows
end Go.Proofs.YtggijcebobjghaaDoor
