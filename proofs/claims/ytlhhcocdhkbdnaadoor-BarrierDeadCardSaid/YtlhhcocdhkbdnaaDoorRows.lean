/-
  NARROWER THAN 'FOR EVERY INPUT', by the rows' own cells (each row's printed sentence says how): BarrierNumbers: laid · BarrierShades: laid · BarrierBirth: laid · BarrierViews: laid · BarrierEnds: laid · BarrierKeeps: laid · BarrierDead: laid · BarrierAlone: laid.
  DERIVED. THE GIVEN ROWS OF THIS SEAT. 8 by the template 'for every input the law returns true; each argument reads behind the call as it read before'; 0 by the template 'total and deterministic' (their statements: YtlhhcocdhkbdnaaDoorTotals.lean).
  GIVEN WITH THE SEED: the statements are not yours to turn. If you find one false, say at which input.
  Laid BY PROGRAM, IN A SANDBOX (cutbox-rows.mjs): the forced cells as the released guide's own fill.sh prints them over the translation 6bac67a487cdfb3c… (all of the seat's roots in one cut). By AI agents, Wed Nov 11 2026. No macro, syntax, notation, axiom, sorry.
-/
import Derived.Test.YtlhhcocdhkbdnaaDoorChecked
import GoSem.Claim
import GoSem.ClaimJoined
import GoSem.ClaimMapViews
import Derived.JoinedTies
import Derived.KernelRfl
namespace Go.Proofs.YtlhhcocdhkbdnaaDoor
/- THE CELL 'sum', in the pinned program and in every row, IS THE sha256 OF THE DUMP (.gsa) THAT YtlhhcocdhkbdnaaDoorProg.lean LOADS. Nothing in Lean hashes anything: it is a label: what it is worth is what the hold of that sum in a sandbox is worth. -/
noncomputable def Tryd.pinned : Pinned := { name := "ytlhhcocdhkbdnaadoor", sum := "6bac67a487cdfb3c88400a01ccfb9af9d242cb3064d068f49cf14fbf0a1b9d50", checked := Tryd.checked }
namespace Rows
def none {H : Type} : Left H := { results := [], args := [] }

/- WHAT THE LISTED PACKAGE-LEVEL VARIABLES READ AS WHEN THE CALL BEGINS. Each datum BY PROGRAM (the guide's laid-datum.mjs) off the statement by which the dump's own 'gosem.cut.vars' lays the variable. In a bare row this is a premise. The card (YtlhhcocdhkbdnaaDoorCards.lean) ties it to the program's text. -/
def laid_dapple_words_bounds {H : Type} : DataW H := .agg [.agg [.lit (.int .i64 0), .lit (.int .i64 0)], .agg [.lit (.int .i64 0), .lit (.int .i64 0)], .agg [.lit (.int .i64 0), .lit (.int .i64 0)], .agg [.lit (.int .i64 0), .lit (.int .i64 0)], .agg [.lit (.int .i64 0), .lit (.int .i64 0)], .agg [.lit (.int .i64 (-576460752303423488)), .lit (.int .i64 576460752303423487)], .agg [.lit (.int .i64 0), .lit (.int .i64 2147483647)], .agg [.lit (.int .i64 1), .lit (.int .i64 22)], .agg [.lit (.int .i64 0), .lit (.int .i64 2147483647)]]

/-- 'dapplelaw13.BarrierNumbers': WHATEVER THE INPUT: true; the input reads as it did. -/
def barrierNumbersSpec : ChangeSpec := { name := "barrierNumbers", fn := fun _ => fun
  | [] => { results := [.lit (.bool true)], args := [] }
  | _ => none }
def barrierNumbersRow : OpenClaim := { program := "ytlhhcocdhkbdnaadoor", sum := "6bac67a487cdfb3c88400a01ccfb9af9d242cb3064d068f49cf14fbf0a1b9d50", func := "dapple/dapplelaw13.BarrierNumbers", spec := "barrierNumbers", unfollowed := true, recurses := true, named := ["dapple/words.bounds"], apart := false, laid := [("dapple/words.bounds", laid_dapple_words_bounds)] }
def BarrierNumbersSaid : Prop := barrierNumbersRow.holds Tryd.pinned (OpenSpec.ofChange barrierNumbersSpec)

/-- ITS FALSE NEIGHBOUR: 'it returns false'. Refute it at one input. -/
def barrierNumbersWrong : ChangeSpec := { name := "barrierNumbers", fn := fun _ => fun
  | [] => { results := [.lit (.bool false)], args := [] }
  | _ => none }
def BarrierNumbersWrongFalsely : Prop := barrierNumbersRow.holds Tryd.pinned (OpenSpec.ofChange barrierNumbersWrong)

/-- 'dapplelaw13.BarrierShades': WHATEVER THE INPUT: true; the input reads as it did. -/
def barrierShadesSpec : ChangeSpec := { name := "barrierShades", fn := fun _ => fun
  | [d] => { results := [.lit (.bool true)], args := [d] }
  | _ => none }
def barrierShadesRow : OpenClaim := { program := "ytlhhcocdhkbdnaadoor", sum := "6bac67a487cdfb3c88400a01ccfb9af9d242cb3064d068f49cf14fbf0a1b9d50", func := "dapple/dapplelaw13.BarrierShades", spec := "barrierShades", unfollowed := true, recurses := true, named := ["dapple/words.bounds"], apart := false, laid := [("dapple/words.bounds", laid_dapple_words_bounds)] }
def BarrierShadesSaid : Prop := barrierShadesRow.holds Tryd.pinned (OpenSpec.ofChange barrierShadesSpec)

/-- ITS FALSE NEIGHBOUR: 'it returns false'. Refute it at one input. -/
def barrierShadesWrong : ChangeSpec := { name := "barrierShades", fn := fun _ => fun
  | [d] => { results := [.lit (.bool false)], args := [d] }
  | _ => none }
def BarrierShadesWrongFalsely : Prop := barrierShadesRow.holds Tryd.pinned (OpenSpec.ofChange barrierShadesWrong)

/-- 'dapplelaw13.BarrierBirth': WHATEVER THE INPUT: true; the input reads as it did. -/
def barrierBirthSpec : ChangeSpec := { name := "barrierBirth", fn := fun _ => fun
  | [d1, d2, d3] => { results := [.lit (.bool true)], args := [d1, d2, d3] }
  | _ => none }
def barrierBirthRow : OpenClaim := { program := "ytlhhcocdhkbdnaadoor", sum := "6bac67a487cdfb3c88400a01ccfb9af9d242cb3064d068f49cf14fbf0a1b9d50", func := "dapple/dapplelaw13.BarrierBirth", spec := "barrierBirth", unfollowed := true, recurses := true, named := ["dapple/words.bounds"], apart := false, laid := [("dapple/words.bounds", laid_dapple_words_bounds)] }
def BarrierBirthSaid : Prop := barrierBirthRow.holds Tryd.pinned (OpenSpec.ofChange barrierBirthSpec)

/-- ITS FALSE NEIGHBOUR: 'it returns false'. Refute it at one input. -/
def barrierBirthWrong : ChangeSpec := { name := "barrierBirth", fn := fun _ => fun
  | [d1, d2, d3] => { results := [.lit (.bool false)], args := [d1, d2, d3] }
  | _ => none }
def BarrierBirthWrongFalsely : Prop := barrierBirthRow.holds Tryd.pinned (OpenSpec.ofChange barrierBirthWrong)

/-- 'dapplelaw13.BarrierViews': WHATEVER THE INPUT: true; the input reads as it did. -/
def barrierViewsSpec : ChangeSpec := { name := "barrierViews", fn := fun _ => fun
  | [d] => { results := [.lit (.bool true)], args := [d] }
  | _ => none }
def barrierViewsRow : OpenClaim := { program := "ytlhhcocdhkbdnaadoor", sum := "6bac67a487cdfb3c88400a01ccfb9af9d242cb3064d068f49cf14fbf0a1b9d50", func := "dapple/dapplelaw13.BarrierViews", spec := "barrierViews", unfollowed := true, recurses := true, named := ["dapple/words.bounds"], apart := false, laid := [("dapple/words.bounds", laid_dapple_words_bounds)] }
def BarrierViewsSaid : Prop := barrierViewsRow.holds Tryd.pinned (OpenSpec.ofChange barrierViewsSpec)

/-- ITS FALSE NEIGHBOUR: 'it returns false'. Refute it at one input. -/
def barrierViewsWrong : ChangeSpec := { name := "barrierViews", fn := fun _ => fun
  | [d] => { results := [.lit (.bool false)], args := [d] }
  | _ => none }
def BarrierViewsWrongFalsely : Prop := barrierViewsRow.holds Tryd.pinned (OpenSpec.ofChange barrierViewsWrong)

/-- 'dapplelaw13.BarrierEnds': WHATEVER THE INPUT: true; the input reads as it did. -/
def barrierEndsSpec : ChangeSpec := { name := "barrierEnds", fn := fun _ => fun
  | [d] => { results := [.lit (.bool true)], args := [d] }
  | _ => none }
def barrierEndsRow : OpenClaim := { program := "ytlhhcocdhkbdnaadoor", sum := "6bac67a487cdfb3c88400a01ccfb9af9d242cb3064d068f49cf14fbf0a1b9d50", func := "dapple/dapplelaw13.BarrierEnds", spec := "barrierEnds", unfollowed := true, recurses := true, named := ["dapple/words.bounds"], apart := false, laid := [("dapple/words.bounds", laid_dapple_words_bounds)] }
def BarrierEndsSaid : Prop := barrierEndsRow.holds Tryd.pinned (OpenSpec.ofChange barrierEndsSpec)

/-- ITS FALSE NEIGHBOUR: 'it returns false'. Refute it at one input. -/
def barrierEndsWrong : ChangeSpec := { name := "barrierEnds", fn := fun _ => fun
  | [d] => { results := [.lit (.bool false)], args := [d] }
  | _ => none }
def BarrierEndsWrongFalsely : Prop := barrierEndsRow.holds Tryd.pinned (OpenSpec.ofChange barrierEndsWrong)

/-- 'dapplelaw13.BarrierKeeps': WHATEVER THE INPUT: true; the input reads as it did. -/
def barrierKeepsSpec : ChangeSpec := { name := "barrierKeeps", fn := fun _ => fun
  | [d1, d2] => { results := [.lit (.bool true)], args := [d1, d2] }
  | _ => none }
def barrierKeepsRow : OpenClaim := { program := "ytlhhcocdhkbdnaadoor", sum := "6bac67a487cdfb3c88400a01ccfb9af9d242cb3064d068f49cf14fbf0a1b9d50", func := "dapple/dapplelaw13.BarrierKeeps", spec := "barrierKeeps", unfollowed := true, recurses := true, named := ["dapple/words.bounds"], apart := false, laid := [("dapple/words.bounds", laid_dapple_words_bounds)] }
def BarrierKeepsSaid : Prop := barrierKeepsRow.holds Tryd.pinned (OpenSpec.ofChange barrierKeepsSpec)

/-- ITS FALSE NEIGHBOUR: 'it returns false'. Refute it at one input. -/
def barrierKeepsWrong : ChangeSpec := { name := "barrierKeeps", fn := fun _ => fun
  | [d1, d2] => { results := [.lit (.bool false)], args := [d1, d2] }
  | _ => none }
def BarrierKeepsWrongFalsely : Prop := barrierKeepsRow.holds Tryd.pinned (OpenSpec.ofChange barrierKeepsWrong)

/-- 'dapplelaw13.BarrierDead': WHATEVER THE INPUT: true; the input reads as it did. -/
def barrierDeadSpec : ChangeSpec := { name := "barrierDead", fn := fun _ => fun
  | [d1, d2] => { results := [.lit (.bool true)], args := [d1, d2] }
  | _ => none }
def barrierDeadRow : OpenClaim := { program := "ytlhhcocdhkbdnaadoor", sum := "6bac67a487cdfb3c88400a01ccfb9af9d242cb3064d068f49cf14fbf0a1b9d50", func := "dapple/dapplelaw13.BarrierDead", spec := "barrierDead", unfollowed := true, recurses := true, named := ["dapple/words.bounds"], apart := false, laid := [("dapple/words.bounds", laid_dapple_words_bounds)] }
def BarrierDeadSaid : Prop := barrierDeadRow.holds Tryd.pinned (OpenSpec.ofChange barrierDeadSpec)

/-- ITS FALSE NEIGHBOUR: 'it returns false'. Refute it at one input. -/
def barrierDeadWrong : ChangeSpec := { name := "barrierDead", fn := fun _ => fun
  | [d1, d2] => { results := [.lit (.bool false)], args := [d1, d2] }
  | _ => none }
def BarrierDeadWrongFalsely : Prop := barrierDeadRow.holds Tryd.pinned (OpenSpec.ofChange barrierDeadWrong)

/-- 'dapplelaw13.BarrierAlone': WHATEVER THE INPUT: true; the input reads as it did. -/
def barrierAloneSpec : ChangeSpec := { name := "barrierAlone", fn := fun _ => fun
  | [d] => { results := [.lit (.bool true)], args := [d] }
  | _ => none }
def barrierAloneRow : OpenClaim := { program := "ytlhhcocdhkbdnaadoor", sum := "6bac67a487cdfb3c88400a01ccfb9af9d242cb3064d068f49cf14fbf0a1b9d50", func := "dapple/dapplelaw13.BarrierAlone", spec := "barrierAlone", unfollowed := true, recurses := true, named := ["dapple/words.bounds"], apart := false, laid := [("dapple/words.bounds", laid_dapple_words_bounds)] }
def BarrierAloneSaid : Prop := barrierAloneRow.holds Tryd.pinned (OpenSpec.ofChange barrierAloneSpec)

/-- ITS FALSE NEIGHBOUR: 'it returns false'. Refute it at one input. -/
def barrierAloneWrong : ChangeSpec := { name := "barrierAlone", fn := fun _ => fun
  | [d] => { results := [.lit (.bool false)], args := [d] }
  | _ => none }
def BarrierAloneWrongFalsely : Prop := barrierAloneRow.holds Tryd.pinned (OpenSpec.ofChange barrierAloneWrong)

/- THE SECOND FORM. 'bulk': how many values and letters a reading holds, each counted each time it is reached (what is shared counts as often as it is met; a slice's spare places count too). A statement '..UptoSaid' is the law's where the arguments, and the package variables that the reading takes, are together of bulk at most 1048576: NARROWER than '..Said'. Prove '..Said' where nothing that the law and all that it calls make is longer than what came in: it says more and counts as full. Else prove '..UptoSaid'. A law counts once. -/
mutual
def uptoBulk {H : Type} : DataW H → Nat
  | .lit (.string bytes) => bytes.length + 1
  | .lit _ => 1
  | .nil => 1
  | .ptr d => uptoBulk d + 1
  | .slice elems spare => uptoBulkAll elems + uptoBulkAll spare + 1
  | .agg parts => uptoBulkAll parts + 1
  | .iface _ d => uptoBulk d + 1
  | .map entries => uptoBulkEntries entries + 1
  | .held _ => 1
def uptoBulkAll {H : Type} : List (DataW H) → Nat
  | [] => 0
  | d :: r => uptoBulk d + uptoBulkAll r
def uptoBulkEntries {H : Type} : List (Lit × DataW H) → Nat
  | [] => 0
  | x :: r => uptoBulkEntry x + uptoBulkEntries r
def uptoBulkEntry {H : Type} : Lit × DataW H → Nat
  | (.string bytes, d) => bytes.length + uptoBulk d + 1
  | (_, d) => uptoBulk d + 1
 end
def uptoSmall : (H : Type) → List (DataW H) → Bool := fun _ ds => decide (uptoBulkAll ds ≤ 1048576)
def OpenSpec.upto (s : _root_.Go.ChangeSpec) : _root_.Go.OpenSpec := { _root_.Go.OpenSpec.ofChange s with cond := some uptoSmall }

/-- 'dapplelaw13.BarrierNumbers', WHERE WHAT IT READS IS OF BULK AT MOST 1048576: true; the input reads as it did. -/
def barrierNumbersUptoRow : OpenClaim := { program := "ytlhhcocdhkbdnaadoor", sum := "6bac67a487cdfb3c88400a01ccfb9af9d242cb3064d068f49cf14fbf0a1b9d50", func := "dapple/dapplelaw13.BarrierNumbers", spec := "barrierNumbers", unfollowed := true, recurses := true, named := ["dapple/words.bounds"], apart := false, laid := [("dapple/words.bounds", laid_dapple_words_bounds)], narrowed := true }
def BarrierNumbersUptoSaid : Prop := barrierNumbersUptoRow.holds Tryd.pinned (OpenSpec.upto barrierNumbersSpec)

/-- 'dapplelaw13.BarrierShades', WHERE WHAT IT READS IS OF BULK AT MOST 1048576: true; the input reads as it did. -/
def barrierShadesUptoRow : OpenClaim := { program := "ytlhhcocdhkbdnaadoor", sum := "6bac67a487cdfb3c88400a01ccfb9af9d242cb3064d068f49cf14fbf0a1b9d50", func := "dapple/dapplelaw13.BarrierShades", spec := "barrierShades", unfollowed := true, recurses := true, named := ["dapple/words.bounds"], apart := false, laid := [("dapple/words.bounds", laid_dapple_words_bounds)], narrowed := true }
def BarrierShadesUptoSaid : Prop := barrierShadesUptoRow.holds Tryd.pinned (OpenSpec.upto barrierShadesSpec)

/-- 'dapplelaw13.BarrierBirth', WHERE WHAT IT READS IS OF BULK AT MOST 1048576: true; the input reads as it did. -/
def barrierBirthUptoRow : OpenClaim := { program := "ytlhhcocdhkbdnaadoor", sum := "6bac67a487cdfb3c88400a01ccfb9af9d242cb3064d068f49cf14fbf0a1b9d50", func := "dapple/dapplelaw13.BarrierBirth", spec := "barrierBirth", unfollowed := true, recurses := true, named := ["dapple/words.bounds"], apart := false, laid := [("dapple/words.bounds", laid_dapple_words_bounds)], narrowed := true }
def BarrierBirthUptoSaid : Prop := barrierBirthUptoRow.holds Tryd.pinned (OpenSpec.upto barrierBirthSpec)

/-- 'dapplelaw13.BarrierViews', WHERE WHAT IT READS IS OF BULK AT MOST 1048576: true; the input reads as it did. -/
def barrierViewsUptoRow : OpenClaim := { program := "ytlhhcocdhkbdnaadoor", sum := "6bac67a487cdfb3c88400a01ccfb9af9d242cb3064d068f49cf14fbf0a1b9d50", func := "dapple/dapplelaw13.BarrierViews", spec := "barrierViews", unfollowed := true, recurses := true, named := ["dapple/words.bounds"], apart := false, laid := [("dapple/words.bounds", laid_dapple_words_bounds)], narrowed := true }
def BarrierViewsUptoSaid : Prop := barrierViewsUptoRow.holds Tryd.pinned (OpenSpec.upto barrierViewsSpec)

/-- 'dapplelaw13.BarrierEnds', WHERE WHAT IT READS IS OF BULK AT MOST 1048576: true; the input reads as it did. -/
def barrierEndsUptoRow : OpenClaim := { program := "ytlhhcocdhkbdnaadoor", sum := "6bac67a487cdfb3c88400a01ccfb9af9d242cb3064d068f49cf14fbf0a1b9d50", func := "dapple/dapplelaw13.BarrierEnds", spec := "barrierEnds", unfollowed := true, recurses := true, named := ["dapple/words.bounds"], apart := false, laid := [("dapple/words.bounds", laid_dapple_words_bounds)], narrowed := true }
def BarrierEndsUptoSaid : Prop := barrierEndsUptoRow.holds Tryd.pinned (OpenSpec.upto barrierEndsSpec)

/-- 'dapplelaw13.BarrierKeeps', WHERE WHAT IT READS IS OF BULK AT MOST 1048576: true; the input reads as it did. -/
def barrierKeepsUptoRow : OpenClaim := { program := "ytlhhcocdhkbdnaadoor", sum := "6bac67a487cdfb3c88400a01ccfb9af9d242cb3064d068f49cf14fbf0a1b9d50", func := "dapple/dapplelaw13.BarrierKeeps", spec := "barrierKeeps", unfollowed := true, recurses := true, named := ["dapple/words.bounds"], apart := false, laid := [("dapple/words.bounds", laid_dapple_words_bounds)], narrowed := true }
def BarrierKeepsUptoSaid : Prop := barrierKeepsUptoRow.holds Tryd.pinned (OpenSpec.upto barrierKeepsSpec)

/-- 'dapplelaw13.BarrierDead', WHERE WHAT IT READS IS OF BULK AT MOST 1048576: true; the input reads as it did. -/
def barrierDeadUptoRow : OpenClaim := { program := "ytlhhcocdhkbdnaadoor", sum := "6bac67a487cdfb3c88400a01ccfb9af9d242cb3064d068f49cf14fbf0a1b9d50", func := "dapple/dapplelaw13.BarrierDead", spec := "barrierDead", unfollowed := true, recurses := true, named := ["dapple/words.bounds"], apart := false, laid := [("dapple/words.bounds", laid_dapple_words_bounds)], narrowed := true }
def BarrierDeadUptoSaid : Prop := barrierDeadUptoRow.holds Tryd.pinned (OpenSpec.upto barrierDeadSpec)

/-- 'dapplelaw13.BarrierAlone', WHERE WHAT IT READS IS OF BULK AT MOST 1048576: true; the input reads as it did. -/
def barrierAloneUptoRow : OpenClaim := { program := "ytlhhcocdhkbdnaadoor", sum := "6bac67a487cdfb3c88400a01ccfb9af9d242cb3064d068f49cf14fbf0a1b9d50", func := "dapple/dapplelaw13.BarrierAlone", spec := "barrierAlone", unfollowed := true, recurses := true, named := ["dapple/words.bounds"], apart := false, laid := [("dapple/words.bounds", laid_dapple_words_bounds)], narrowed := true }
def BarrierAloneUptoSaid : Prop := barrierAloneUptoRow.holds Tryd.pinned (OpenSpec.upto barrierAloneSpec)

end Rows
end Go.Proofs.YtlhhcocdhkbdnaaDoor
