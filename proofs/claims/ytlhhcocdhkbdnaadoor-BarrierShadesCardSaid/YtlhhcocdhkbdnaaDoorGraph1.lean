/-
  THE WALKS of package graph: isWord; each, named, for whatever they hand cells to.
-/
import Derived.Test.YtlhhcocdhkbdnaaDoorWords
import Derived.Test.YtlhhcocdhkbdnaaDoorGraphPure
import Derived.Test.YtlhhcocdhkbdnaaDoorSame
set_option linter.unusedVariables false
set_option linter.unusedSimpArgs false
set_option maxRecDepth 100000
namespace Go.Proofs.YtlhhcocdhkbdnaaDoor.Gr
open Go.RowKit Go.Proofs.YtlhhcocdhkbdnaaDoor.Wd Go.Proofs.YtlhhcocdhkbdnaaDoor.Hp Go.Proofs.YtlhhcocdhkbdnaaDoor.Gp Go.Proofs.YtlhhcocdhkbdnaaDoor.Sm

theorem Bnd.ch {w w' : World} {T : List Nat} (h : Bnd w) (hc : Ch T w w') (hT : 0 ∉ T) : Bnd w' := fun t ht => ⟨hc.cell (h t ht).1 hT, hc.cell (h t ht).2 hT⟩
/-- A slice that reads as xs, in a block that is none of T. -/
def RdF (w : World) (ao : Option Addr) (m : Nat) (xs : List Value) (T : List Nat) : Prop := xs.length = m ∧ (m = 0 ∨ ∃ b off, ao = some ⟨b, off, none⟩ ∧ b ∉ T ∧ ∀ j, j < m → w.cell? ⟨b, off + j, none⟩ = xs[j]?)
theorem RdF.ch {w w' : World} {ao : Option Addr} {m : Nat} {xs : List Value} {T T' : List Nat} (h : RdF w ao m xs T) (hc : Ch T w w') (hT : ∀ t ∈ T', t ∈ T ∨ w.heap.size ≤ t) : RdF w' ao m xs T' := by
  obtain ⟨h1, h2⟩ := h
  refine ⟨h1, ?_⟩
  rcases h2 with h2 | ⟨b, off, ha, hb, hj⟩
  · exact .inl h2
  · by_cases h0 : m = 0
    · exact .inl h0
    · refine .inr ⟨b, off, ha, fun hm => ?_, fun j hlt => ?_⟩
      · rcases hT b hm with h | h
        · exact hb h
        · have h3 := hj 0 (by omega)
          rw [List.getElem?_eq_getElem (by omega)] at h3
          have := World.block_lt_of_cell? w _ h3
          simp at this; omega
      · have h3 := hj j hlt
        rw [List.getElem?_eq_getElem (by omega)] at h3 ⊢
        exact hc.cell h3 hb
theorem RdF.rd {w : World} {ao : Option Addr} {m : Nat} {xs : List Value} {T : List Nat} (h : RdF w ao m xs T) : Rd w ao m xs := ⟨h.1, h.2.imp id fun ⟨b, off, a, _, c⟩ => ⟨b, off, a, c⟩⟩

/-- What a function that is handed cells does: it goes on from state to state; of old memory it changes but its own blocks T. -/
def Steps {α : Type} (F x y : Nat) (I : World → α → List Nat → Prop) (f : α → Nat → α) (ok : Nat → Prop) : Prop :=
  ∀ w s T c, I w s T → ok c → Calls Tryd.prog F #[.int .i64 ((c : Nat) : Int), .pointer (some ⟨x, 0, none⟩), .pointer (some ⟨y, 0, none⟩)] w fun e w' => e = .returned (.tuple #[]) ∧ ∃ T', I w' (f s c) T' ∧ Ch T w w' ∧ ∀ t ∈ T', t ∈ T ∨ w.heap.size ≤ t
def EachPost {α : Type} (I : World → α → List Nat → Prop) (w : World) (s : α) (T : List Nat) (e : Ending) (w' : World) : Prop :=
  e = .returned (.tuple #[]) ∧ ∃ T', I w' s T' ∧ Ch T w w' ∧ ∀ t ∈ T', t ∈ T ∨ w.heap.size ≤ t
theorem eachW_snoc {α : Type} (f : α → Nat → α) (s : α) (l : List Int) (x : Int) : eachW f s (l ++ [x]) = if isRef x then f (eachW f s l) (cellN x).toNat else eachW f s l := by simp [eachW, List.foldl_append]
theorem wordsOf_u {h : List Cel} (hh : ∀ x ∈ h, InR x) (c : Nat) (hc : c < h.length) : ∀ v ∈ wordsOf h c, u64 v := by
  have := InR.at hh c hc
  intro v hv
  unfold wordsOf at hv
  split at hv
  · cases hv
  · simp at hv
    rcases hv with rfl | rfl
    · exact this.2.2.2.2.1
    · exact this.2.2.2.2.2
end Go.Proofs.YtlhhcocdhkbdnaaDoor.Gr
