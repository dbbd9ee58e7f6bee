/-
  DERIVED. GIVEN WITH THE SEED: THE CARDS: each row of YtggijcebobjghaaDoorRows.lean that lists a variable, with what it lists TIED to the program's text (the seventh form; the later family's looks); each row that meets fmt, with fmt's text TOLD by the authors' own Lean function (tested against real Go, not proved from fmt's source: count such statements apart). THE CARD IS WHAT COUNTS. Prove the row's statement (the work); the ties are given (YtggijcebobjghaaDoorTie.lean); close each card by the builder's one call (the guide's Derived/Test/ToyasCard.lean, 'card_holds'). Laid BY PROGRAM, IN A SANDBOX (cutbox-door.mjs). By AI agents, Wed Nov 11 2026. No macro, syntax, notation, axiom, sorry.
-/
import Derived.Test.YtggijcebobjghaaDoorRows
import GoSem.ClaimSeven
namespace Go.Proofs.YtggijcebobjghaaDoor
namespace Rows

/-- THE TIED CARD OF 'dapplelaw10.GraphNumbers'. -/
def graphNumbersCard : Claim7 := { stood := { row := graphNumbersRow, standIns := [], harness := (true, "925ec85b4dfd94e735ce9e213832aa3c98c5acba8ca0d27683cf7d8b7135ee2e"), looks := false }, kinds := [], alts := [], laidByText := true, laidKinds := [.data], laidTests := true, laidLooks := .later }
def GraphNumbersCardSaid : Prop := Claim7.holds Tryd.pinned (.plain (OpenSpec.ofChange graphNumbersSpec)) graphNumbersCard

/-- THE TIED CARD OF 'dapplelaw10.GraphReaches'. -/
def graphReachesCard : Claim7 := { stood := { row := graphReachesRow, standIns := [], harness := (true, "925ec85b4dfd94e735ce9e213832aa3c98c5acba8ca0d27683cf7d8b7135ee2e"), looks := false }, kinds := [], alts := [], laidByText := true, laidKinds := [.data], laidTests := true, laidLooks := .later }
def GraphReachesCardSaid : Prop := Claim7.holds Tryd.pinned (.plain (OpenSpec.ofChange graphReachesSpec)) graphReachesCard

/-- THE TIED CARD OF 'dapplelaw10.GraphPaths'. -/
def graphPathsCard : Claim7 := { stood := { row := graphPathsRow, standIns := [], harness := (true, "925ec85b4dfd94e735ce9e213832aa3c98c5acba8ca0d27683cf7d8b7135ee2e"), looks := false }, kinds := [], alts := [], laidByText := true, laidKinds := [.data], laidTests := true, laidLooks := .later }
def GraphPathsCardSaid : Prop := Claim7.holds Tryd.pinned (.plain (OpenSpec.ofChange graphPathsSpec)) graphPathsCard

/-- THE TIED CARD OF 'dapplelaw10.GraphCloses'. -/
def graphClosesCard : Claim7 := { stood := { row := graphClosesRow, standIns := [], harness := (true, "925ec85b4dfd94e735ce9e213832aa3c98c5acba8ca0d27683cf7d8b7135ee2e"), looks := false }, kinds := [], alts := [], laidByText := true, laidKinds := [.data], laidTests := true, laidLooks := .later }
def GraphClosesCardSaid : Prop := Claim7.holds Tryd.pinned (.plain (OpenSpec.ofChange graphClosesSpec)) graphClosesCard

/-- THE TIED CARD OF 'dapplelaw10.GraphForms'. -/
def graphFormsCard : Claim7 := { stood := { row := graphFormsRow, standIns := [], harness := (true, "925ec85b4dfd94e735ce9e213832aa3c98c5acba8ca0d27683cf7d8b7135ee2e"), looks := false }, kinds := [], alts := [], laidByText := true, laidKinds := [.data], laidTests := true, laidLooks := .later }
def GraphFormsCardSaid : Prop := Claim7.holds Tryd.pinned (.plain (OpenSpec.ofChange graphFormsSpec)) graphFormsCard

/-- THE SECOND FORM's CARD OF 'dapplelaw10.GraphNumbers'. -/
def graphNumbersUptoCard : Claim7 := { stood := { row := graphNumbersUptoRow, standIns := [], harness := (true, "925ec85b4dfd94e735ce9e213832aa3c98c5acba8ca0d27683cf7d8b7135ee2e"), looks := false }, kinds := [], alts := [], laidByText := true, laidKinds := [.data], laidTests := true, laidLooks := .later }
def GraphNumbersUptoCardSaid : Prop := Claim7.holds Tryd.pinned (.plain (OpenSpec.upto graphNumbersSpec)) graphNumbersUptoCard

/-- THE SECOND FORM's CARD OF 'dapplelaw10.GraphReaches'. -/
def graphReachesUptoCard : Claim7 := { stood := { row := graphReachesUptoRow, standIns := [], harness := (true, "925ec85b4dfd94e735ce9e213832aa3c98c5acba8ca0d27683cf7d8b7135ee2e"), looks := false }, kinds := [], alts := [], laidByText := true, laidKinds := [.data], laidTests := true, laidLooks := .later }
def GraphReachesUptoCardSaid : Prop := Claim7.holds Tryd.pinned (.plain (OpenSpec.upto graphReachesSpec)) graphReachesUptoCard

/-- THE SECOND FORM's CARD OF 'dapplelaw10.GraphPaths'. -/
def graphPathsUptoCard : Claim7 := { stood := { row := graphPathsUptoRow, standIns := [], harness := (true, "925ec85b4dfd94e735ce9e213832aa3c98c5acba8ca0d27683cf7d8b7135ee2e"), looks := false }, kinds := [], alts := [], laidByText := true, laidKinds := [.data], laidTests := true, laidLooks := .later }
def GraphPathsUptoCardSaid : Prop := Claim7.holds Tryd.pinned (.plain (OpenSpec.upto graphPathsSpec)) graphPathsUptoCard

/-- THE SECOND FORM's CARD OF 'dapplelaw10.GraphCloses'. -/
def graphClosesUptoCard : Claim7 := { stood := { row := graphClosesUptoRow, standIns := [], harness := (true, "925ec85b4dfd94e735ce9e213832aa3c98c5acba8ca0d27683cf7d8b7135ee2e"), looks := false }, kinds := [], alts := [], laidByText := true, laidKinds := [.data], laidTests := true, laidLooks := .later }
def GraphClosesUptoCardSaid : Prop := Claim7.holds Tryd.pinned (.plain (OpenSpec.upto graphClosesSpec)) graphClosesUptoCard

/-- THE SECOND FORM's CARD OF 'dapplelaw10.GraphForms'. -/
def graphFormsUptoCard : Claim7 := { stood := { row := graphFormsUptoRow, standIns := [], harness := (true, "925ec85b4dfd94e735ce9e213832aa3c98c5acba8ca0d27683cf7d8b7135ee2e"), looks := false }, kinds := [], alts := [], laidByText := true, laidKinds := [.data], laidTests := true, laidLooks := .later }
def GraphFormsUptoCardSaid : Prop := Claim7.holds Tryd.pinned (.plain (OpenSpec.upto graphFormsSpec)) graphFormsUptoCard
end Rows
end Go.Proofs.YtggijcebobjghaaDoor
