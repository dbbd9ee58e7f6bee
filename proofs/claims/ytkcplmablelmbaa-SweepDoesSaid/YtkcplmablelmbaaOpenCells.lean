/-
  AN ARGUMENT THAT IS A SLICE OF CELLS, opened: its cells, each of which fits.
-/
import Derived.Test.YtkcplmablelmbaaSweep2
import Derived.Deep.Slices
import Derived.Deep.Fields
import Derived.ChangeSame
import Derived.ProofKit
import Derived.OpenShut
set_option linter.unusedVariables false
set_option linter.unusedSimpArgs false
set_option maxRecDepth 100000
namespace Go.Proofs.Ytkcplmablelmbaa.OC
open Go.ChangeShapes Go.WideShapes Go.Deep Go.RowKit Go.Proofs.Ytkcplmablelmbaa.Hp Go.Proofs.Ytkcplmablelmbaa.Cp Go.Proofs.Ytkcplmablelmbaa.Cl Go.Proofs.Ytkcplmablelmbaa.Sw

theorem chosen {α : Type} (z : α) (Q : Nat → α → Prop) : ∀ n, (∀ i, i < n → ∃ x, Q i x) → ∃ r : List α, r.length = n ∧ ∀ i, i < n → Q i (r.getD i z)
  | 0, _ => ⟨[], rfl, fun i h => absurd h (by omega)⟩
  | n + 1, h => by
    obtain ⟨r, hr, hq⟩ := chosen z Q n (fun i hi => h i (by omega))
    obtain ⟨x, hx⟩ := h n (by omega)
    refine ⟨r ++ [x], by simp [hr], fun i hi => ?_⟩
    by_cases e : i = n
    · subst e
      have : (r ++ [x]).getD i z = x := by simp [List.getD, ← hr]
      rw [this]; exact hx
    · have : (r ++ [x]).getD i z = r.getD i z := by simp [List.getD, List.getElem?_append_left (show i < r.length by omega)]
      rw [this]; exact hq i (by omega)

/-- One cell of the row, read. -/
theorem open_cell {H : Type} {enc : TypeId × Value → H} {w : World} {base : Nat} {spare : Nat → Bool} {held : Bool} {fuel : Nat} {cs : List Value} {x : DataW H × List MemPlace}
    (h : DataW.trod enc Try.prog w base spare held fuel 29 cs = some x) : ∃ y : Cel, InR y ∧ cs = (cel y).toList := by
  obtain ⟨xs, n, rfl, rfl, hl, hx, hf⟩ := DataW.trod_struct Try.underlying29 h
  have c4 : Try.prog.cellsOf 29 = 4 := by kernel_rfl
  rw [c4] at hl
  match cs, hl with
  | [u0, u1, u2, u3], _ =>
    have g0 : DataW.trod enc Try.prog w base spare held n 24 (List.take (Try.prog.cellsOf 24) (List.drop 0 [u0, u1, u2, u3])) = xs[0]? := hf 0 _ rfl
    have g1 : DataW.trod enc Try.prog w base spare held n 25 (List.take (Try.prog.cellsOf 25) (List.drop 1 [u0, u1, u2, u3])) = xs[1]? := hf 1 _ rfl
    have g2 : DataW.trod enc Try.prog w base spare held n 27 (List.take (Try.prog.cellsOf 27) (List.drop 2 [u0, u1, u2, u3])) = xs[2]? := hf 2 _ rfl
    have g3 : DataW.trod enc Try.prog w base spare held n 27 (List.take (Try.prog.cellsOf 27) (List.drop 3 [u0, u1, u2, u3])) = xs[3]? := hf 3 _ rfl
    have t0 : Try.prog.cellsOf 24 = 1 := by kernel_rfl
    have t1 : Try.prog.cellsOf 25 = 1 := by kernel_rfl
    have t2 : Try.prog.cellsOf 27 = 1 := by kernel_rfl
    rw [t0] at g0; rw [t1] at g1; rw [t2] at g2 g3
    match xs, hx with
    | [y0, y1, y2, y3], _ =>
      obtain ⟨k, e0, _, w0⟩ := DataW.trod_int Try.underlying24 (g0.trans rfl : _ = some y0)
      obtain ⟨c, e1, _, w1⟩ := DataW.trod_int Try.underlying25 (g1.trans rfl : _ = some y1)
      obtain ⟨a, e2, _, w2⟩ := DataW.trod_int Try.underlying27 (g2.trans rfl : _ = some y2)
      obtain ⟨b, e3, _, w3⟩ := DataW.trod_int Try.underlying27 (g3.trans rfl : _ = some y3)
      simp at e0 e1 e2 e3
      have b0 := bounds_u8 w0
      have b1 := bounds_u8 w1
      have b2 := bounds_u64 w2
      have b3 := bounds_u64 w3
      refine ⟨⟨k, c, a, b⟩, ⟨by simp; omega, by simp; omega, by simp; omega, by simp; omega, by simp; omega, by simp; omega, by simp; omega, by simp; omega⟩, ?_⟩
      rw [e0, e1, e2, e3]; rfl

/-- THE ARGUMENT. -/
theorem open_cells {H : Type} {enc : TypeId × Value → H} {w : World} {base : Nat} {spare : Nat → Bool} {held : Bool} {fuel : Nat} {cs : List Value} {x : DataW H × List MemPlace}
    (h : DataW.trod enc Try.prog w base spare held fuel 23 cs = some x) : ∃ (ao : Option Addr) (cap : Nat) (r : List Cel), cs = [.slice ao r.length cap] ∧ Rd w ao (r.length * 4) (flat r) ∧ (∀ y ∈ r, InR y) ∧ r.length ≤ cap ∧ cap ≤ maxLen ∧ (ao = none → cap = 0) := by
  rcases open_slice Try.underlying23 h with ⟨rfl, _⟩ | ⟨a, len, cap, m, n, D, Pl, rfl, hb, hlc, hcm, hm, hx, hi⟩
  · exact ⟨none, 0, [], rfl, ⟨rfl, .inl rfl⟩, by simp, by simp, by simp [maxLen], fun _ => rfl⟩
  have c4 : Try.prog.cellsOf 29 = 4 := by kernel_rfl
  rw [c4] at hi
  have hml : len ≤ m := by rw [hm]; split <;> omega
  obtain ⟨r, hr, hq⟩ := chosen free (fun i y => InR y ∧ ∀ t, t < 4 → w.cell? (a.add (i * 4 + t)) = (cel y).toList[t]?) len (fun i hil => by
    obtain ⟨cs', hc, ht⟩ := hi i (by omega)
    obtain ⟨y, hy, rfl⟩ := open_cell ht
    obtain ⟨_, _, hat⟩ := World.cells?_some hc
    exact ⟨y, hy, fun t ht4 => by rw [← hat t ht4, Go.Deep.add_add]⟩)
  refine ⟨some a, cap, r, by rw [hr], ⟨flat_length r, ?_⟩, ?_, by omega, hcm, fun h => by cases h⟩
  · by_cases h0 : len = 0
    · left; rw [hr, h0]
    · right
      have ha : a.spot = none := by
        have h1 := (hq 0 (by omega)).2 0 (by omega)
        obtain ⟨ab, ao, asp⟩ := a
        cases asp with
        | none => rfl
        | some z =>
          simp [Addr.add, World.cell?, cel] at h1
          split at h1 <;> simp at h1
      obtain ⟨ab, ao, asp⟩ := a
      simp only at ha
      subst ha
      refine ⟨ab, ao, rfl, fun j hj => ?_⟩
      rw [hr] at hj
      have e : j = j / 4 * 4 + j % 4 := by omega
      have h4 : j % 4 < 4 := Nat.mod_lt _ (by omega)
      have hjl : j / 4 < len := by omega
      have hg := (hq (j / 4) hjl).2 (j % 4) h4
      rw [← e] at hg
      have hfl := flat_get r (j / 4) (j % 4) (by omega) h4
      rw [← e] at hfl
      rw [hfl, ← hg]
      by_cases hj0 : j = 0
      · subst hj0; rfl
      · simp [Addr.add, hj0]
  · intro y hy
    obtain ⟨i, hi2, rfl⟩ := List.mem_iff_getElem.1 hy
    have := (hq i (by omega)).1
    rwa [show r.getD i free = r[i] by simp [List.getD, hi2]] at this
end Go.Proofs.Ytkcplmablelmbaa.OC
