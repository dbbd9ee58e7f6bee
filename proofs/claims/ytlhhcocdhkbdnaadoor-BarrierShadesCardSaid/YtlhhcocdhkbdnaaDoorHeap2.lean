/-
  MEMORY, on (no program): the side conditions of an append, said ahead of a walk; rows that are copied.
-/
import Derived.Test.YtlhhcocdhkbdnaaDoorHeap
set_option linter.unusedVariables false
set_option linter.unusedSimpArgs false
namespace Go.Proofs.YtlhhcocdhkbdnaaDoor.Hp
open Go.RowKit

/-- A block that has just been made reads as what was laid in it. -/
theorem newL {w : World} {b : Nat} (hb : b = w.heap.size) (us : List Value) (t : TypeId) : ∀ j x, us[j]? = some x → (w.alloc (.cells us.toArray t)).cell? ((⟨b, 0, none⟩ : Addr).add j) = some x := by
  intro j x hj
  subst hb
  rw [Addr.add_lit, Nat.zero_add, World.cell?_alloc_at _ _ _ _ rfl]
  simpa using hj
theorem one1 (k : IntKind) (x : Int) : ∀ u ∈ [Value.int k x], u.oneCell' = true := by intro u hu; simp at hu; subst hu; rfl
theorem oneB (x : Bool) : ∀ u ∈ [Value.bool x], u.oneCell' = true := by intro u hu; simp at hu; subst hu; rfl
theorem oneS (ao : Option Addr) (n c : Nat) : ∀ u ∈ [Value.slice ao n c], u.oneCell' = true := by intro u hu; simp at hu; subst hu; rfl
theorem one2 (k k' : IntKind) (x y : Int) : ∀ u ∈ [Value.int k x, Value.int k' y], u.oneCell' = true := by intro u hu; simp at hu; rcases hu with rfl | rfl <;> rfl
theorem one4 (a b c d : IntKind) (x y z t : Int) : ∀ u ∈ [Value.int a x, Value.int b y, Value.int c z, Value.int d t], u.oneCell' = true := by intro u hu; simp at hu; rcases hu with rfl | rfl | rfl | rfl <;> rfl
/-- A slice without room. -/
theorem Row.none (w : World) (e : TypeId) (sz : Nat) (qs : List Nat) (ao : Option Addr) : Row w e sz (.slice ao 0 0) qs 0 [] := ⟨by simp, ao, 0, rfl, Nat.le_refl _, by simp [maxLen], fun _ => rfl, .inl rfl⟩
/-- What an append leaves as blocks: those that were, or a new one. -/
def News (qs qs' : List Nat) (w w' : World) : Prop := qs' = qs ∨ ∃ q', qs' = [q'] ∧ w.heap.size ≤ q' ∧ q' < w'.heap.size
theorem News.mem {qs qs' : List Nat} {w w' : World} (h : News qs qs' w w') {q : Nat} (hq : q ∈ qs') : q ∈ qs ∨ (w.heap.size ≤ q ∧ q < w'.heap.size) := by
  rcases h with e | ⟨q', e, h1, h2⟩
  · rw [e] at hq; exact .inl hq
  · rw [e] at hq; simp only [List.mem_singleton] at hq; subst hq; exact .inr ⟨h1, h2⟩
end Go.Proofs.YtlhhcocdhkbdnaaDoor.Hp
