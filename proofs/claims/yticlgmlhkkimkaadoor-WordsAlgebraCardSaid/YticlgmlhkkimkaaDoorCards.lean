/-
  DERIVED. GIVEN WITH THE SEED: THE CARDS: each row of YticlgmlhkkimkaaDoorRows.lean that lists a variable, with what it lists TIED to the program's text (the seventh form; the later family's looks); each row that meets fmt, with fmt's text TOLD by the authors' own Lean function (tested against real Go, not proved from fmt's source: count such statements apart). THE CARD IS WHAT COUNTS. Prove the row's statement (the work); the ties are given (YticlgmlhkkimkaaDoorTie.lean); close each card by the builder's one call (the guide's Derived/Test/ToyasCard.lean, 'card_holds'). Laid BY PROGRAM, IN A SANDBOX (cutbox-door.mjs). By AI agents, Wed Nov 11 2026. No macro, syntax, notation, axiom, sorry.
-/
import Derived.Test.YticlgmlhkkimkaaDoorRows
import GoSem.ClaimSeven
namespace Go.Proofs.YticlgmlhkkimkaaDoor
namespace Rows

/-- THE TIED CARD OF 'dapplelaw01.WordsNumbers'. -/
def wordsNumbersCard : Claim7 := { stood := { row := wordsNumbersRow, standIns := [], harness := (true, "47caf0507012d4817650ca50bea4e12595183a03d85b7478534903733d5b9b91"), looks := false }, kinds := [], alts := [], laidByText := true, laidKinds := [.data], laidTests := true, laidLooks := .later }
def WordsNumbersCardSaid : Prop := Claim7.holds Tryd.pinned (.plain (OpenSpec.ofChange wordsNumbersSpec)) wordsNumbersCard

/-- THE TIED CARD OF 'dapplelaw01.WordsMakes'. -/
def wordsMakesCard : Claim7 := { stood := { row := wordsMakesRow, standIns := [], harness := (true, "47caf0507012d4817650ca50bea4e12595183a03d85b7478534903733d5b9b91"), looks := false }, kinds := [], alts := [], laidByText := true, laidKinds := [.data], laidTests := true, laidLooks := .later }
def WordsMakesCardSaid : Prop := Claim7.holds Tryd.pinned (.plain (OpenSpec.ofChange wordsMakesSpec)) wordsMakesCard

/-- THE TIED CARD OF 'dapplelaw01.WordsBack'. -/
def wordsBackCard : Claim7 := { stood := { row := wordsBackRow, standIns := [], harness := (true, "47caf0507012d4817650ca50bea4e12595183a03d85b7478534903733d5b9b91"), looks := false }, kinds := [], alts := [], laidByText := true, laidKinds := [.data], laidTests := true, laidLooks := .later }
def WordsBackCardSaid : Prop := Claim7.holds Tryd.pinned (.plain (OpenSpec.ofChange wordsBackSpec)) wordsBackCard

/-- THE TIED CARD OF 'dapplelaw01.WordsReckons'. -/
def wordsReckonsCard : Claim7 := { stood := { row := wordsReckonsRow, standIns := [], harness := (true, "47caf0507012d4817650ca50bea4e12595183a03d85b7478534903733d5b9b91"), looks := false }, kinds := [], alts := [], laidByText := true, laidKinds := [.data], laidTests := true, laidLooks := .later }
def WordsReckonsCardSaid : Prop := Claim7.holds Tryd.pinned (.plain (OpenSpec.ofChange wordsReckonsSpec)) wordsReckonsCard

/-- THE TIED CARD OF 'dapplelaw01.WordsAlgebra'. -/
def wordsAlgebraCard : Claim7 := { stood := { row := wordsAlgebraRow, standIns := [], harness := (true, "47caf0507012d4817650ca50bea4e12595183a03d85b7478534903733d5b9b91"), looks := false }, kinds := [], alts := [], laidByText := true, laidKinds := [.data], laidTests := true, laidLooks := .later }
def WordsAlgebraCardSaid : Prop := Claim7.holds Tryd.pinned (.plain (OpenSpec.ofChange wordsAlgebraSpec)) wordsAlgebraCard

/-- THE SECOND FORM's CARD OF 'dapplelaw01.WordsNumbers'. -/
def wordsNumbersUptoCard : Claim7 := { stood := { row := wordsNumbersUptoRow, standIns := [], harness := (true, "47caf0507012d4817650ca50bea4e12595183a03d85b7478534903733d5b9b91"), looks := false }, kinds := [], alts := [], laidByText := true, laidKinds := [.data], laidTests := true, laidLooks := .later }
def WordsNumbersUptoCardSaid : Prop := Claim7.holds Tryd.pinned (.plain (OpenSpec.upto wordsNumbersSpec)) wordsNumbersUptoCard

/-- THE SECOND FORM's CARD OF 'dapplelaw01.WordsMakes'. -/
def wordsMakesUptoCard : Claim7 := { stood := { row := wordsMakesUptoRow, standIns := [], harness := (true, "47caf0507012d4817650ca50bea4e12595183a03d85b7478534903733d5b9b91"), looks := false }, kinds := [], alts := [], laidByText := true, laidKinds := [.data], laidTests := true, laidLooks := .later }
def WordsMakesUptoCardSaid : Prop := Claim7.holds Tryd.pinned (.plain (OpenSpec.upto wordsMakesSpec)) wordsMakesUptoCard

/-- THE SECOND FORM's CARD OF 'dapplelaw01.WordsBack'. -/
def wordsBackUptoCard : Claim7 := { stood := { row := wordsBackUptoRow, standIns := [], harness := (true, "47caf0507012d4817650ca50bea4e12595183a03d85b7478534903733d5b9b91"), looks := false }, kinds := [], alts := [], laidByText := true, laidKinds := [.data], laidTests := true, laidLooks := .later }
def WordsBackUptoCardSaid : Prop := Claim7.holds Tryd.pinned (.plain (OpenSpec.upto wordsBackSpec)) wordsBackUptoCard

/-- THE SECOND FORM's CARD OF 'dapplelaw01.WordsReckons'. -/
def wordsReckonsUptoCard : Claim7 := { stood := { row := wordsReckonsUptoRow, standIns := [], harness := (true, "47caf0507012d4817650ca50bea4e12595183a03d85b7478534903733d5b9b91"), looks := false }, kinds := [], alts := [], laidByText := true, laidKinds := [.data], laidTests := true, laidLooks := .later }
def WordsReckonsUptoCardSaid : Prop := Claim7.holds Tryd.pinned (.plain (OpenSpec.upto wordsReckonsSpec)) wordsReckonsUptoCard

/-- THE SECOND FORM's CARD OF 'dapplelaw01.WordsAlgebra'. -/
def wordsAlgebraUptoCard : Claim7 := { stood := { row := wordsAlgebraUptoRow, standIns := [], harness := (true, "47caf0507012d4817650ca50bea4e12595183a03d85b7478534903733d5b9b91"), looks := false }, kinds := [], alts := [], laidByText := true, laidKinds := [.data], laidTests := true, laidLooks := .later }
def WordsAlgebraUptoCardSaid : Prop := Claim7.holds Tryd.pinned (.plain (OpenSpec.upto wordsAlgebraSpec)) wordsAlgebraUptoCard
end Rows
end Go.Proofs.YticlgmlhkkimkaaDoor
