/-
  DERIVED. GIVEN WITH THE SEED: THE CARDS: each row of YtefamhdkfdgdjaaDoorRows.lean that lists a variable, with what it lists TIED to the program's text (the seventh form; the later family's looks); each row that meets fmt, with fmt's text TOLD by the authors' own Lean function (tested against real Go, not proved from fmt's source: count such statements apart). THE CARD IS WHAT COUNTS. Prove the row's statement (the work); the ties are given (YtefamhdkfdgdjaaDoorTie.lean); close each card by the builder's one call (the guide's Derived/Test/ToyasCard.lean, 'card_holds'). Laid BY PROGRAM, IN A SANDBOX (cutbox-door.mjs). By AI agents, Wed Nov 11 2026. No macro, syntax, notation, axiom, sorry.
-/
import Derived.Test.YtefamhdkfdgdjaaDoorRows
import GoSem.ClaimSeven
namespace Go.Proofs.YtefamhdkfdgdjaaDoor
namespace Rows

/-- THE TIED CARD OF 'dapplelaw15.MarkNumbers'. -/
def markNumbersCard : Claim7 := { stood := { row := markNumbersRow, standIns := [], harness := (true, "b21085b55d61a91f348ed171245c39647f1e80856589c7b7418531ec755e580e"), looks := false }, kinds := [], alts := [], laidByText := true, laidKinds := [.data], laidTests := true, laidLooks := .later }
def MarkNumbersCardSaid : Prop := Claim7.holds Tryd.pinned (.plain (OpenSpec.ofChange markNumbersSpec)) markNumbersCard

/-- THE TIED CARD OF 'dapplelaw15.MarkDoes'. -/
def markDoesCard : Claim7 := { stood := { row := markDoesRow, standIns := [], harness := (true, "b21085b55d61a91f348ed171245c39647f1e80856589c7b7418531ec755e580e"), looks := false }, kinds := [], alts := [], laidByText := true, laidKinds := [.data], laidTests := true, laidLooks := .later }
def MarkDoesCardSaid : Prop := Claim7.holds Tryd.pinned (.plain (OpenSpec.ofChange markDoesSpec)) markDoesCard

/-- THE TIED CARD OF 'dapplelaw15.MarkReach'. -/
def markReachCard : Claim7 := { stood := { row := markReachRow, standIns := [], harness := (true, "b21085b55d61a91f348ed171245c39647f1e80856589c7b7418531ec755e580e"), looks := false }, kinds := [], alts := [], laidByText := true, laidKinds := [.data], laidTests := true, laidLooks := .later }
def MarkReachCardSaid : Prop := Claim7.holds Tryd.pinned (.plain (OpenSpec.ofChange markReachSpec)) markReachCard

/-- THE SECOND FORM's CARD OF 'dapplelaw15.MarkNumbers'. -/
def markNumbersUptoCard : Claim7 := { stood := { row := markNumbersUptoRow, standIns := [], harness := (true, "b21085b55d61a91f348ed171245c39647f1e80856589c7b7418531ec755e580e"), looks := false }, kinds := [], alts := [], laidByText := true, laidKinds := [.data], laidTests := true, laidLooks := .later }
def MarkNumbersUptoCardSaid : Prop := Claim7.holds Tryd.pinned (.plain (OpenSpec.upto markNumbersSpec)) markNumbersUptoCard

/-- THE SECOND FORM's CARD OF 'dapplelaw15.MarkDoes'. -/
def markDoesUptoCard : Claim7 := { stood := { row := markDoesUptoRow, standIns := [], harness := (true, "b21085b55d61a91f348ed171245c39647f1e80856589c7b7418531ec755e580e"), looks := false }, kinds := [], alts := [], laidByText := true, laidKinds := [.data], laidTests := true, laidLooks := .later }
def MarkDoesUptoCardSaid : Prop := Claim7.holds Tryd.pinned (.plain (OpenSpec.upto markDoesSpec)) markDoesUptoCard

/-- THE SECOND FORM's CARD OF 'dapplelaw15.MarkReach'. -/
def markReachUptoCard : Claim7 := { stood := { row := markReachUptoRow, standIns := [], harness := (true, "b21085b55d61a91f348ed171245c39647f1e80856589c7b7418531ec755e580e"), looks := false }, kinds := [], alts := [], laidByText := true, laidKinds := [.data], laidTests := true, laidLooks := .later }
def MarkReachUptoCardSaid : Prop := Claim7.holds Tryd.pinned (.plain (OpenSpec.upto markReachSpec)) markReachUptoCard
end Rows
end Go.Proofs.YtefamhdkfdgdjaaDoor
