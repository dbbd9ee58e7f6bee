/-
  PLAIN LAWS (no program): the cells as a heap that stands still.
-/
import Derived.Test.YtefamhdkfdgdjaaDoorQMade
import Derived.Test.YtefamhdkfdgdjaaDoorQMReachP
set_option linter.unusedVariables false
set_option linter.unusedSimpArgs false
namespace Go.Proofs.YtefamhdkfdgdjaaDoor.L15
open Go.RowKit Go.Proofs.YtefamhdkfdgdjaaDoor.Wd Go.Proofs.YtefamhdkfdgdjaaDoor.Hp Go.Proofs.YtefamhdkfdgdjaaDoor.Cp Go.Proofs.YtefamhdkfdgdjaaDoor.Cl Go.Proofs.YtefamhdkfdgdjaaDoor.Mk Go.Proofs.YtefamhdkfdgdjaaDoor.R03
def fixW (v : Int) : Int := if (!ofOk v || (isRef v && decide (16 ≤ cellN v))) = true then 1 else v
def plainC (x : Cel) : Cel := if 1 ≤ x.k ∧ x.k ≤ 3 then ⟨x.k, 0, fixW x.a, fixW x.b⟩ else free
def plainK (cs : List Cel) (k : Nat) : List Cel := (List.range k).map (fun i => plainC (cs.getD i free))
theorem plainK_next (cs : List Cel) (k : Nat) : Cl.flat (plainK cs (k + 1)) = Cl.flat (plainK cs k) ++ [.int .u8 (plainC (cs.getD k free)).k, .int .u8 (plainC (cs.getD k free)).c, .int .u64 (plainC (cs.getD k free)).a, .int .u64 (plainC (cs.getD k free)).b] := by
  unfold plainK
  rw [List.range_succ, List.map_append]
  unfold Cl.flat
  rw [List.flatMap_append]
  simp [cel]
theorem fixW_cases (v : Int) : (ofOk v = false ∧ isRef v = false ∧ fixW v = 1) ∨ (ofOk v = true ∧ isRef v = false ∧ fixW v = v) ∨ (ofOk v = true ∧ isRef v = true ∧ 16 ≤ cellN v ∧ fixW v = 1) ∨ (ofOk v = true ∧ isRef v = true ∧ cellN v < 16 ∧ fixW v = v) := by
  unfold fixW
  cases ho : ofOk v
  · have hr : isRef v = false := by unfold isRef ofT; rw [ho]; rfl
    exact .inl ⟨rfl, hr, rfl⟩
  · cases hr : isRef v
    · exact .inr (.inl ⟨rfl, rfl, rfl⟩)
    · by_cases hc : 16 ≤ cellN v
      · exact .inr (.inr (.inl ⟨rfl, rfl, hc, by simp [hc]⟩))
      · exact .inr (.inr (.inr ⟨rfl, rfl, by omega, by simp [hc]⟩))
end Go.Proofs.YtefamhdkfdgdjaaDoor.L15
