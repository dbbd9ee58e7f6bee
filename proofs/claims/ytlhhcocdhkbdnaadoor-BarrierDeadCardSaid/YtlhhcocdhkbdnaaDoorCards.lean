/-
  DERIVED. GIVEN WITH THE SEED: THE CARDS: each row of YtlhhcocdhkbdnaaDoorRows.lean that lists a variable, with what it lists TIED to the program's text (the seventh form; the later family's looks); each row that meets fmt, with fmt's text TOLD by the authors' own Lean function (tested against real Go, not proved from fmt's source: count such statements apart). THE CARD IS WHAT COUNTS. Prove the row's statement (the work); the ties are given (YtlhhcocdhkbdnaaDoorTie.lean); close each card by the builder's one call (the guide's Derived/Test/ToyasCard.lean, 'card_holds'). Laid BY PROGRAM, IN A SANDBOX (cutbox-door.mjs). By AI agents, Wed Nov 11 2026. No macro, syntax, notation, axiom, sorry.
-/
import Derived.Test.YtlhhcocdhkbdnaaDoorRows
import GoSem.ClaimSeven
namespace Go.Proofs.YtlhhcocdhkbdnaaDoor
namespace Rows

/-- THE TIED CARD OF 'dapplelaw13.BarrierNumbers'. -/
def barrierNumbersCard : Claim7 := { stood := { row := barrierNumbersRow, standIns := [], harness := (true, "fb3915adfecf0f2529eb660bb124888e0a65d73932fa98e8f1a4987efa3b0ce3"), looks := false }, kinds := [], alts := [], laidByText := true, laidKinds := [.data], laidTests := true, laidLooks := .later }
def BarrierNumbersCardSaid : Prop := Claim7.holds Tryd.pinned (.plain (OpenSpec.ofChange barrierNumbersSpec)) barrierNumbersCard

/-- THE TIED CARD OF 'dapplelaw13.BarrierShades'. -/
def barrierShadesCard : Claim7 := { stood := { row := barrierShadesRow, standIns := [], harness := (true, "fb3915adfecf0f2529eb660bb124888e0a65d73932fa98e8f1a4987efa3b0ce3"), looks := false }, kinds := [], alts := [], laidByText := true, laidKinds := [.data], laidTests := true, laidLooks := .later }
def BarrierShadesCardSaid : Prop := Claim7.holds Tryd.pinned (.plain (OpenSpec.ofChange barrierShadesSpec)) barrierShadesCard

/-- THE TIED CARD OF 'dapplelaw13.BarrierBirth'. -/
def barrierBirthCard : Claim7 := { stood := { row := barrierBirthRow, standIns := [], harness := (true, "fb3915adfecf0f2529eb660bb124888e0a65d73932fa98e8f1a4987efa3b0ce3"), looks := false }, kinds := [], alts := [], laidByText := true, laidKinds := [.data], laidTests := true, laidLooks := .later }
def BarrierBirthCardSaid : Prop := Claim7.holds Tryd.pinned (.plain (OpenSpec.ofChange barrierBirthSpec)) barrierBirthCard

/-- THE TIED CARD OF 'dapplelaw13.BarrierViews'. -/
def barrierViewsCard : Claim7 := { stood := { row := barrierViewsRow, standIns := [], harness := (true, "fb3915adfecf0f2529eb660bb124888e0a65d73932fa98e8f1a4987efa3b0ce3"), looks := false }, kinds := [], alts := [], laidByText := true, laidKinds := [.data], laidTests := true, laidLooks := .later }
def BarrierViewsCardSaid : Prop := Claim7.holds Tryd.pinned (.plain (OpenSpec.ofChange barrierViewsSpec)) barrierViewsCard

/-- THE TIED CARD OF 'dapplelaw13.BarrierEnds'. -/
def barrierEndsCard : Claim7 := { stood := { row := barrierEndsRow, standIns := [], harness := (true, "fb3915adfecf0f2529eb660bb124888e0a65d73932fa98e8f1a4987efa3b0ce3"), looks := false }, kinds := [], alts := [], laidByText := true, laidKinds := [.data], laidTests := true, laidLooks := .later }
def BarrierEndsCardSaid : Prop := Claim7.holds Tryd.pinned (.plain (OpenSpec.ofChange barrierEndsSpec)) barrierEndsCard

/-- THE TIED CARD OF 'dapplelaw13.BarrierKeeps'. -/
def barrierKeepsCard : Claim7 := { stood := { row := barrierKeepsRow, standIns := [], harness := (true, "fb3915adfecf0f2529eb660bb124888e0a65d73932fa98e8f1a4987efa3b0ce3"), looks := false }, kinds := [], alts := [], laidByText := true, laidKinds := [.data], laidTests := true, laidLooks := .later }
def BarrierKeepsCardSaid : Prop := Claim7.holds Tryd.pinned (.plain (OpenSpec.ofChange barrierKeepsSpec)) barrierKeepsCard

/-- THE TIED CARD OF 'dapplelaw13.BarrierDead'. -/
def barrierDeadCard : Claim7 := { stood := { row := barrierDeadRow, standIns := [], harness := (true, "fb3915adfecf0f2529eb660bb124888e0a65d73932fa98e8f1a4987efa3b0ce3"), looks := false }, kinds := [], alts := [], laidByText := true, laidKinds := [.data], laidTests := true, laidLooks := .later }
def BarrierDeadCardSaid : Prop := Claim7.holds Tryd.pinned (.plain (OpenSpec.ofChange barrierDeadSpec)) barrierDeadCard

/-- THE TIED CARD OF 'dapplelaw13.BarrierAlone'. -/
def barrierAloneCard : Claim7 := { stood := { row := barrierAloneRow, standIns := [], harness := (true, "fb3915adfecf0f2529eb660bb124888e0a65d73932fa98e8f1a4987efa3b0ce3"), looks := false }, kinds := [], alts := [], laidByText := true, laidKinds := [.data], laidTests := true, laidLooks := .later }
def BarrierAloneCardSaid : Prop := Claim7.holds Tryd.pinned (.plain (OpenSpec.ofChange barrierAloneSpec)) barrierAloneCard

/-- THE SECOND FORM's CARD OF 'dapplelaw13.BarrierNumbers'. -/
def barrierNumbersUptoCard : Claim7 := { stood := { row := barrierNumbersUptoRow, standIns := [], harness := (true, "fb3915adfecf0f2529eb660bb124888e0a65d73932fa98e8f1a4987efa3b0ce3"), looks := false }, kinds := [], alts := [], laidByText := true, laidKinds := [.data], laidTests := true, laidLooks := .later }
def BarrierNumbersUptoCardSaid : Prop := Claim7.holds Tryd.pinned (.plain (OpenSpec.upto barrierNumbersSpec)) barrierNumbersUptoCard

/-- THE SECOND FORM's CARD OF 'dapplelaw13.BarrierShades'. -/
def barrierShadesUptoCard : Claim7 := { stood := { row := barrierShadesUptoRow, standIns := [], harness := (true, "fb3915adfecf0f2529eb660bb124888e0a65d73932fa98e8f1a4987efa3b0ce3"), looks := false }, kinds := [], alts := [], laidByText := true, laidKinds := [.data], laidTests := true, laidLooks := .later }
def BarrierShadesUptoCardSaid : Prop := Claim7.holds Tryd.pinned (.plain (OpenSpec.upto barrierShadesSpec)) barrierShadesUptoCard

/-- THE SECOND FORM's CARD OF 'dapplelaw13.BarrierBirth'. -/
def barrierBirthUptoCard : Claim7 := { stood := { row := barrierBirthUptoRow, standIns := [], harness := (true, "fb3915adfecf0f2529eb660bb124888e0a65d73932fa98e8f1a4987efa3b0ce3"), looks := false }, kinds := [], alts := [], laidByText := true, laidKinds := [.data], laidTests := true, laidLooks := .later }
def BarrierBirthUptoCardSaid : Prop := Claim7.holds Tryd.pinned (.plain (OpenSpec.upto barrierBirthSpec)) barrierBirthUptoCard

/-- THE SECOND FORM's CARD OF 'dapplelaw13.BarrierViews'. -/
def barrierViewsUptoCard : Claim7 := { stood := { row := barrierViewsUptoRow, standIns := [], harness := (true, "fb3915adfecf0f2529eb660bb124888e0a65d73932fa98e8f1a4987efa3b0ce3"), looks := false }, kinds := [], alts := [], laidByText := true, laidKinds := [.data], laidTests := true, laidLooks := .later }
def BarrierViewsUptoCardSaid : Prop := Claim7.holds Tryd.pinned (.plain (OpenSpec.upto barrierViewsSpec)) barrierViewsUptoCard

/-- THE SECOND FORM's CARD OF 'dapplelaw13.BarrierEnds'. -/
def barrierEndsUptoCard : Claim7 := { stood := { row := barrierEndsUptoRow, standIns := [], harness := (true, "fb3915adfecf0f2529eb660bb124888e0a65d73932fa98e8f1a4987efa3b0ce3"), looks := false }, kinds := [], alts := [], laidByText := true, laidKinds := [.data], laidTests := true, laidLooks := .later }
def BarrierEndsUptoCardSaid : Prop := Claim7.holds Tryd.pinned (.plain (OpenSpec.upto barrierEndsSpec)) barrierEndsUptoCard

/-- THE SECOND FORM's CARD OF 'dapplelaw13.BarrierKeeps'. -/
def barrierKeepsUptoCard : Claim7 := { stood := { row := barrierKeepsUptoRow, standIns := [], harness := (true, "fb3915adfecf0f2529eb660bb124888e0a65d73932fa98e8f1a4987efa3b0ce3"), looks := false }, kinds := [], alts := [], laidByText := true, laidKinds := [.data], laidTests := true, laidLooks := .later }
def BarrierKeepsUptoCardSaid : Prop := Claim7.holds Tryd.pinned (.plain (OpenSpec.upto barrierKeepsSpec)) barrierKeepsUptoCard

/-- THE SECOND FORM's CARD OF 'dapplelaw13.BarrierDead'. -/
def barrierDeadUptoCard : Claim7 := { stood := { row := barrierDeadUptoRow, standIns := [], harness := (true, "fb3915adfecf0f2529eb660bb124888e0a65d73932fa98e8f1a4987efa3b0ce3"), looks := false }, kinds := [], alts := [], laidByText := true, laidKinds := [.data], laidTests := true, laidLooks := .later }
def BarrierDeadUptoCardSaid : Prop := Claim7.holds Tryd.pinned (.plain (OpenSpec.upto barrierDeadSpec)) barrierDeadUptoCard

/-- THE SECOND FORM's CARD OF 'dapplelaw13.BarrierAlone'. -/
def barrierAloneUptoCard : Claim7 := { stood := { row := barrierAloneUptoRow, standIns := [], harness := (true, "fb3915adfecf0f2529eb660bb124888e0a65d73932fa98e8f1a4987efa3b0ce3"), looks := false }, kinds := [], alts := [], laidByText := true, laidKinds := [.data], laidTests := true, laidLooks := .later }
def BarrierAloneUptoCardSaid : Prop := Claim7.holds Tryd.pinned (.plain (OpenSpec.upto barrierAloneSpec)) barrierAloneUptoCard
end Rows
end Go.Proofs.YtlhhcocdhkbdnaaDoor
