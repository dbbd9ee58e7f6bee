/-
  THE WALKS of dappleref00's Same..: two lists are compared.
-/
import Derived.Test.YtkcplmablelmbaaProg
import Derived.Test.YtkcplmablelmbaaHeap
import Derived.KernelRfl
import Derived.Deep.QuietTactic
import Derived.BigQuiet
import Derived.Deep.Draws
set_option linter.unusedVariables false
set_option linter.unusedSimpArgs false
namespace Go.Proofs.Ytkcplmablelmbaa.Sm
open Go.RowKit Go.Proofs.Ytkcplmablelmbaa.Hp

/-- Do two lists agree in their first k places? -/
theorem eq_of_agree {α : Type} {xs ys : List α} (hl : xs.length = ys.length) (h : ∀ j, j < xs.length → xs[j]? = ys[j]?) : xs = ys := by
  apply List.ext_getElem? ; intro j
  rcases Nat.lt_or_ge j xs.length with hj | hj
  · exact h j hj
  · rw [List.getElem?_eq_none hj, List.getElem?_eq_none (by omega)]

def ints (k : IntKind) (xs : List Int) : List Value := xs.map (Value.int k)
theorem ints_get {k : IntKind} {xs : List Int} {j : Nat} (h : j < xs.length) : (ints k xs)[j]? = some (.int k (xs.getD j 0)) := by simp [ints, h]
theorem rd_ints {w : World} {ao : Option Addr} {k : IntKind} {xs : List Int} {n : Nat} (h : Rd w ao n (ints k xs)) : xs.length = n ∧ (n = 0 ∨ ∃ b off, ao = some ⟨b, off, none⟩ ∧ ∀ j, j < n → w.cell? ⟨b, off + j, none⟩ = some (.int k (xs.getD j 0))) := by
  obtain ⟨h1, h2⟩ := h
  have hl : xs.length = n := by simpa [ints] using h1
  exact ⟨hl, h2.imp id fun ⟨b, off, ha, hc⟩ => ⟨b, off, ha, fun j hj => (hc j hj).trans (ints_get (by omega))⟩⟩

theorem rd_new (w : World) (k : IntKind) (l : List Int) (t : TypeId) : Rd (w.alloc (.cells (ints k l).toArray t)) (some ⟨w.heap.size, 0, none⟩) l.length (ints k l) :=
  ⟨by simp [ints], .inr ⟨w.heap.size, 0, rfl, fun j hj => by rw [Nat.zero_add, World.cell?_alloc_at _ _ _ _ rfl]; simp⟩⟩
end Go.Proofs.Ytkcplmablelmbaa.Sm
