/-
  NARROWER THAN 'FOR EVERY INPUT', by the rows' own cells (each row's printed sentence says how): WordsNumbers: laid · WordsMakes: laid · WordsBack: laid · WordsReckons: laid · WordsAlgebra: laid.
  DERIVED. THE GIVEN ROWS OF THIS SEAT. 5 by the template 'for every input the law returns true; each argument reads behind the call as it read before'; 0 by the template 'total and deterministic' (their statements: YticlgmlhkkimkaaDoorTotals.lean).
  GIVEN WITH THE SEED: the statements are not yours to turn. If you find one false, say at which input.
  Laid BY PROGRAM, IN A SANDBOX (cutbox-rows.mjs): the forced cells as the released guide's own fill.sh prints them over the translation 30aa0912b201242a… (all of the seat's roots in one cut). By AI agents, Wed Nov 11 2026. No macro, syntax, notation, axiom, sorry.
-/
import Derived.Test.YticlgmlhkkimkaaDoorChecked
import GoSem.Claim
import GoSem.ClaimJoined
import GoSem.ClaimMapViews
import Derived.JoinedTies
import Derived.KernelRfl
namespace Go.Proofs.YticlgmlhkkimkaaDoor
/- THE CELL 'sum', in the pinned program and in every row, IS THE sha256 OF THE DUMP (.gsa) THAT YticlgmlhkkimkaaDoorProg.lean LOADS. Nothing in Lean hashes anything: it is a label: what it is worth is what the hold of that sum in a sandbox is worth. -/
noncomputable def Tryd.pinned : Pinned := { name := "yticlgmlhkkimkaadoor", sum := "30aa0912b201242a91cd16f5c30a4ed414dc51fb7add6ae8fc041c010da1d063", checked := Tryd.checked }
namespace Rows
def none {H : Type} : Left H := { results := [], args := [] }

/- WHAT THE LISTED PACKAGE-LEVEL VARIABLES READ AS WHEN THE CALL BEGINS. Each datum BY PROGRAM (the guide's laid-datum.mjs) off the statement by which the dump's own 'gosem.cut.vars' lays the variable. In a bare row this is a premise. The card (YticlgmlhkkimkaaDoorCards.lean) ties it to the program's text. -/
def laid_dapple_words_bounds {H : Type} : DataW H := .agg [.agg [.lit (.int .i64 0), .lit (.int .i64 0)], .agg [.lit (.int .i64 0), .lit (.int .i64 0)], .agg [.lit (.int .i64 0), .lit (.int .i64 0)], .agg [.lit (.int .i64 0), .lit (.int .i64 0)], .agg [.lit (.int .i64 0), .lit (.int .i64 0)], .agg [.lit (.int .i64 (-576460752303423488)), .lit (.int .i64 576460752303423487)], .agg [.lit (.int .i64 0), .lit (.int .i64 2147483647)], .agg [.lit (.int .i64 1), .lit (.int .i64 22)], .agg [.lit (.int .i64 0), .lit (.int .i64 2147483647)]]

/-- 'dapplelaw01.WordsNumbers': WHATEVER THE INPUT: true; the input reads as it did. -/
def wordsNumbersSpec : ChangeSpec := { name := "wordsNumbers", fn := fun _ => fun
  | [] => { results := [.lit (.bool true)], args := [] }
  | _ => none }
def wordsNumbersRow : OpenClaim := { program := "yticlgmlhkkimkaadoor", sum := "30aa0912b201242a91cd16f5c30a4ed414dc51fb7add6ae8fc041c010da1d063", func := "dapple/dapplelaw01.WordsNumbers", spec := "wordsNumbers", named := ["dapple/words.bounds"], apart := false, laid := [("dapple/words.bounds", laid_dapple_words_bounds)] }
def WordsNumbersSaid : Prop := wordsNumbersRow.holds Tryd.pinned (OpenSpec.ofChange wordsNumbersSpec)

/-- ITS FALSE NEIGHBOUR: 'it returns false'. Refute it at one input. -/
def wordsNumbersWrong : ChangeSpec := { name := "wordsNumbers", fn := fun _ => fun
  | [] => { results := [.lit (.bool false)], args := [] }
  | _ => none }
def WordsNumbersWrongFalsely : Prop := wordsNumbersRow.holds Tryd.pinned (OpenSpec.ofChange wordsNumbersWrong)

/-- 'dapplelaw01.WordsMakes': WHATEVER THE INPUT: true; the input reads as it did. -/
def wordsMakesSpec : ChangeSpec := { name := "wordsMakes", fn := fun _ => fun
  | [d] => { results := [.lit (.bool true)], args := [d] }
  | _ => none }
def wordsMakesRow : OpenClaim := { program := "yticlgmlhkkimkaadoor", sum := "30aa0912b201242a91cd16f5c30a4ed414dc51fb7add6ae8fc041c010da1d063", func := "dapple/dapplelaw01.WordsMakes", spec := "wordsMakes", named := ["dapple/words.bounds"], apart := false, laid := [("dapple/words.bounds", laid_dapple_words_bounds)] }
def WordsMakesSaid : Prop := wordsMakesRow.holds Tryd.pinned (OpenSpec.ofChange wordsMakesSpec)

/-- ITS FALSE NEIGHBOUR: 'it returns false'. Refute it at one input. -/
def wordsMakesWrong : ChangeSpec := { name := "wordsMakes", fn := fun _ => fun
  | [d] => { results := [.lit (.bool false)], args := [d] }
  | _ => none }
def WordsMakesWrongFalsely : Prop := wordsMakesRow.holds Tryd.pinned (OpenSpec.ofChange wordsMakesWrong)

/-- 'dapplelaw01.WordsBack': WHATEVER THE INPUT: true; the input reads as it did. -/
def wordsBackSpec : ChangeSpec := { name := "wordsBack", fn := fun _ => fun
  | [d1, d2] => { results := [.lit (.bool true)], args := [d1, d2] }
  | _ => none }
def wordsBackRow : OpenClaim := { program := "yticlgmlhkkimkaadoor", sum := "30aa0912b201242a91cd16f5c30a4ed414dc51fb7add6ae8fc041c010da1d063", func := "dapple/dapplelaw01.WordsBack", spec := "wordsBack", named := ["dapple/words.bounds"], apart := false, laid := [("dapple/words.bounds", laid_dapple_words_bounds)] }
def WordsBackSaid : Prop := wordsBackRow.holds Tryd.pinned (OpenSpec.ofChange wordsBackSpec)

/-- ITS FALSE NEIGHBOUR: 'it returns false'. Refute it at one input. -/
def wordsBackWrong : ChangeSpec := { name := "wordsBack", fn := fun _ => fun
  | [d1, d2] => { results := [.lit (.bool false)], args := [d1, d2] }
  | _ => none }
def WordsBackWrongFalsely : Prop := wordsBackRow.holds Tryd.pinned (OpenSpec.ofChange wordsBackWrong)

/-- 'dapplelaw01.WordsReckons': WHATEVER THE INPUT: true; the input reads as it did. -/
def wordsReckonsSpec : ChangeSpec := { name := "wordsReckons", fn := fun _ => fun
  | [d1, d2] => { results := [.lit (.bool true)], args := [d1, d2] }
  | _ => none }
def wordsReckonsRow : OpenClaim := { program := "yticlgmlhkkimkaadoor", sum := "30aa0912b201242a91cd16f5c30a4ed414dc51fb7add6ae8fc041c010da1d063", func := "dapple/dapplelaw01.WordsReckons", spec := "wordsReckons", named := ["dapple/words.bounds"], apart := false, laid := [("dapple/words.bounds", laid_dapple_words_bounds)] }
def WordsReckonsSaid : Prop := wordsReckonsRow.holds Tryd.pinned (OpenSpec.ofChange wordsReckonsSpec)

/-- ITS FALSE NEIGHBOUR: 'it returns false'. Refute it at one input. -/
def wordsReckonsWrong : ChangeSpec := { name := "wordsReckons", fn := fun _ => fun
  | [d1, d2] => { results := [.lit (.bool false)], args := [d1, d2] }
  | _ => none }
def WordsReckonsWrongFalsely : Prop := wordsReckonsRow.holds Tryd.pinned (OpenSpec.ofChange wordsReckonsWrong)

/-- 'dapplelaw01.WordsAlgebra': WHATEVER THE INPUT: true; the input reads as it did. -/
def wordsAlgebraSpec : ChangeSpec := { name := "wordsAlgebra", fn := fun _ => fun
  | [d1, d2, d3] => { results := [.lit (.bool true)], args := [d1, d2, d3] }
  | _ => none }
def wordsAlgebraRow : OpenClaim := { program := "yticlgmlhkkimkaadoor", sum := "30aa0912b201242a91cd16f5c30a4ed414dc51fb7add6ae8fc041c010da1d063", func := "dapple/dapplelaw01.WordsAlgebra", spec := "wordsAlgebra", named := ["dapple/words.bounds"], apart := false, laid := [("dapple/words.bounds", laid_dapple_words_bounds)] }
def WordsAlgebraSaid : Prop := wordsAlgebraRow.holds Tryd.pinned (OpenSpec.ofChange wordsAlgebraSpec)

/-- ITS FALSE NEIGHBOUR: 'it returns false'. Refute it at one input. -/
def wordsAlgebraWrong : ChangeSpec := { name := "wordsAlgebra", fn := fun _ => fun
  | [d1, d2, d3] => { results := [.lit (.bool false)], args := [d1, d2, d3] }
  | _ => none }
def WordsAlgebraWrongFalsely : Prop := wordsAlgebraRow.holds Tryd.pinned (OpenSpec.ofChange wordsAlgebraWrong)

/- THE SECOND FORM. 'bulk': how many values and letters a reading holds, each counted each time it is reached (what is shared counts as often as it is met; a slice's spare places count too). A statement '..UptoSaid' is the law's where the arguments, and the package variables that the reading takes, are together of bulk at most 1048576: NARROWER than '..Said'. Prove '..Said' where nothing that the law and all that it calls make is longer than what came in: it says more and counts as full. Else prove '..UptoSaid'. A law counts once. -/
mutual
def uptoBulk {H : Type} : DataW H → Nat
  | .lit (.string bytes) => bytes.length + 1
  | .lit _ => 1
  | .nil => 1
  | .ptr d => uptoBulk d + 1
  | .slice elems spare => uptoBulkAll elems + uptoBulkAll spare + 1
  | .agg parts => uptoBulkAll parts + 1
  | .iface _ d => uptoBulk d + 1
  | .map entries => uptoBulkEntries entries + 1
  | .held _ => 1
def uptoBulkAll {H : Type} : List (DataW H) → Nat
  | [] => 0
  | d :: r => uptoBulk d + uptoBulkAll r
def uptoBulkEntries {H : Type} : List (Lit × DataW H) → Nat
  | [] => 0
  | x :: r => uptoBulkEntry x + uptoBulkEntries r
def uptoBulkEntry {H : Type} : Lit × DataW H → Nat
  | (.string bytes, d) => bytes.length + uptoBulk d + 1
  | (_, d) => uptoBulk d + 1
 end
def uptoSmall : (H : Type) → List (DataW H) → Bool := fun _ ds => decide (uptoBulkAll ds ≤ 1048576)
def OpenSpec.upto (s : _root_.Go.ChangeSpec) : _root_.Go.OpenSpec := { _root_.Go.OpenSpec.ofChange s with cond := some uptoSmall }

/-- 'dapplelaw01.WordsNumbers', WHERE WHAT IT READS IS OF BULK AT MOST 1048576: true; the input reads as it did. -/
def wordsNumbersUptoRow : OpenClaim := { program := "yticlgmlhkkimkaadoor", sum := "30aa0912b201242a91cd16f5c30a4ed414dc51fb7add6ae8fc041c010da1d063", func := "dapple/dapplelaw01.WordsNumbers", spec := "wordsNumbers", named := ["dapple/words.bounds"], apart := false, laid := [("dapple/words.bounds", laid_dapple_words_bounds)], narrowed := true }
def WordsNumbersUptoSaid : Prop := wordsNumbersUptoRow.holds Tryd.pinned (OpenSpec.upto wordsNumbersSpec)

/-- 'dapplelaw01.WordsMakes', WHERE WHAT IT READS IS OF BULK AT MOST 1048576: true; the input reads as it did. -/
def wordsMakesUptoRow : OpenClaim := { program := "yticlgmlhkkimkaadoor", sum := "30aa0912b201242a91cd16f5c30a4ed414dc51fb7add6ae8fc041c010da1d063", func := "dapple/dapplelaw01.WordsMakes", spec := "wordsMakes", named := ["dapple/words.bounds"], apart := false, laid := [("dapple/words.bounds", laid_dapple_words_bounds)], narrowed := true }
def WordsMakesUptoSaid : Prop := wordsMakesUptoRow.holds Tryd.pinned (OpenSpec.upto wordsMakesSpec)

/-- 'dapplelaw01.WordsBack', WHERE WHAT IT READS IS OF BULK AT MOST 1048576: true; the input reads as it did. -/
def wordsBackUptoRow : OpenClaim := { program := "yticlgmlhkkimkaadoor", sum := "30aa0912b201242a91cd16f5c30a4ed414dc51fb7add6ae8fc041c010da1d063", func := "dapple/dapplelaw01.WordsBack", spec := "wordsBack", named := ["dapple/words.bounds"], apart := false, laid := [("dapple/words.bounds", laid_dapple_words_bounds)], narrowed := true }
def WordsBackUptoSaid : Prop := wordsBackUptoRow.holds Tryd.pinned (OpenSpec.upto wordsBackSpec)

/-- 'dapplelaw01.WordsReckons', WHERE WHAT IT READS IS OF BULK AT MOST 1048576: true; the input reads as it did. -/
def wordsReckonsUptoRow : OpenClaim := { program := "yticlgmlhkkimkaadoor", sum := "30aa0912b201242a91cd16f5c30a4ed414dc51fb7add6ae8fc041c010da1d063", func := "dapple/dapplelaw01.WordsReckons", spec := "wordsReckons", named := ["dapple/words.bounds"], apart := false, laid := [("dapple/words.bounds", laid_dapple_words_bounds)], narrowed := true }
def WordsReckonsUptoSaid : Prop := wordsReckonsUptoRow.holds Tryd.pinned (OpenSpec.upto wordsReckonsSpec)

/-- 'dapplelaw01.WordsAlgebra', WHERE WHAT IT READS IS OF BULK AT MOST 1048576: true; the input reads as it did. -/
def wordsAlgebraUptoRow : OpenClaim := { program := "yticlgmlhkkimkaadoor", sum := "30aa0912b201242a91cd16f5c30a4ed414dc51fb7add6ae8fc041c010da1d063", func := "dapple/dapplelaw01.WordsAlgebra", spec := "wordsAlgebra", named := ["dapple/words.bounds"], apart := false, laid := [("dapple/words.bounds", laid_dapple_words_bounds)], narrowed := true }
def WordsAlgebraUptoSaid : Prop := wordsAlgebraUptoRow.holds Tryd.pinned (OpenSpec.upto wordsAlgebraSpec)

end Rows
end Go.Proofs.YticlgmlhkkimkaaDoor
