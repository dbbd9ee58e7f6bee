/-
  AN ARGUMENT THAT IS A SLICE OF int, opened.
-/
import Derived.Test.YtkcplmablelmbaaOpenCells
set_option linter.unusedVariables false
set_option linter.unusedSimpArgs false
set_option maxRecDepth 100000
namespace Go.Proofs.Ytkcplmablelmbaa.OC
open Go.ChangeShapes Go.WideShapes Go.Deep Go.RowKit Go.Proofs.Ytkcplmablelmbaa.Hp

theorem open_ints64 {H : Type} {enc : TypeId × Value → H} {w : World} {base : Nat} {spare : Nat → Bool} {held : Bool} {fuel : Nat} {cs : List Value} {x : DataW H × List MemPlace}
    (h : DataW.trod enc Try.prog w base spare held fuel 45 cs = some x) : ∃ (ao : Option Addr) (m cap : Nat) (bs : List Int), cs = [.slice ao m cap] ∧
      (bs.length = m ∧ (m = 0 ∨ ∃ b off, ao = some ⟨b, off, none⟩ ∧ ∀ j, j < m → w.cell? ⟨b, off + j, none⟩ = some (.int .i64 (bs.getD j 0)))) ∧ ∀ y ∈ bs, -9223372036854775808 ≤ y ∧ y ≤ 9223372036854775807 := by
  rcases open_slice Try.underlying45 h with ⟨rfl, _⟩ | ⟨a, len, cap, m, n, D, Pl, rfl, hb, hlc, hcm, hm, hx, hi⟩
  · exact ⟨none, 0, 0, [], rfl, ⟨rfl, .inl rfl⟩, by simp⟩
  have c1 : Try.prog.cellsOf 3 = 1 := by kernel_rfl
  rw [c1] at hi
  have hml : len ≤ m := by rw [hm]; split <;> omega
  obtain ⟨bs, hr, hq⟩ := chosen (0 : Int) (fun i y => (-9223372036854775808 ≤ y ∧ y ≤ 9223372036854775807) ∧ w.cell? (a.add i) = some (.int .i64 y)) len (fun i hil => by
    obtain ⟨cs', hc, ht⟩ := hi i (by omega)
    obtain ⟨y, rfl, _, wy⟩ := DataW.trod_int Try.underlying3 ht
    obtain ⟨_, _, hat⟩ := World.cells?_some hc
    have := hat 0 (by omega)
    rw [Nat.mul_one] at this
    exact ⟨y, bounds_i64 wy, by rw [show a.add i = (a.add i).add 0 by simp [Addr.add], this]; rfl⟩)
  refine ⟨some a, len, cap, bs, rfl, ⟨hr, ?_⟩, ?_⟩
  · by_cases h0 : len = 0
    · exact .inl h0
    · right
      have ha : a.spot = none := by
        have h1 := (hq 0 (by omega)).2
        obtain ⟨ab, ao, asp⟩ := a
        cases asp with
        | none => rfl
        | some z =>
          simp [Addr.add, World.cell?] at h1
          split at h1 <;> simp at h1
      obtain ⟨ab, ao, asp⟩ := a
      simp only at ha
      subst ha
      refine ⟨ab, ao, rfl, fun j hj => ?_⟩
      have hg := (hq j hj).2
      by_cases hj0 : j = 0
      · subst hj0; exact hg
      · simpa [Addr.add, hj0] using hg
  · intro y hy
    obtain ⟨i, hi2, rfl⟩ := List.mem_iff_getElem.1 hy
    have := (hq i (by omega)).1
    rwa [show bs.getD i 0 = bs[i] by simp [List.getD, hi2]] at this
end Go.Proofs.Ytkcplmablelmbaa.OC
