/-
  AN ARGUMENT THAT IS A SLICE OF dapplelaw12.Op, opened.
-/
import Derived.Test.YtdncodandmjknaaKeep5
import Derived.OpenShut
import Derived.Lib.SmallJoins
import Derived.KernelRfl
set_option linter.unusedVariables false
set_option linter.unusedSimpArgs false
set_option maxRecDepth 100000
namespace Go.Proofs.Ytdncodandmjknaa.OC
open Go.ChangeShapes Go.WideShapes Go.Deep Go.RowKit Go.Proofs.Ytdncodandmjknaa.Hp Go.Proofs.Ytdncodandmjknaa.Kp

theorem chosen {α : Type} (z : α) (Q : Nat → α → Prop) : ∀ n, (∀ i, i < n → ∃ x, Q i x) → ∃ r : List α, r.length = n ∧ ∀ i, i < n → Q i (r.getD i z)
  | 0, _ => ⟨[], rfl, fun i h => absurd h (by omega)⟩
  | n + 1, h => by
    obtain ⟨r, h1, h2⟩ := chosen z Q n (fun i hi => h i (by omega))
    obtain ⟨x, hx⟩ := h n (by omega)
    refine ⟨r ++ [x], by simp [h1], fun i hi => ?_⟩
    by_cases e : i = n
    · subst e; simpa [List.getD_eq_getElem?_getD, List.getElem?_append, h1] using hx
    · have := h2 i (by omega)
      rw [List.getD_eq_getElem?_getD, List.getElem?_append_left (by omega), ← List.getD_eq_getElem?_getD]; exact this

theorem open_op {H : Type} {enc : TypeId × Value → H} {w : World} {base : Nat} {spare : Nat → Bool} {held : Bool} {fuel : Nat} {cs : List Value} {x : DataW H × List MemPlace}
    (h : DataW.trod enc Try.prog w base spare held fuel 53 cs = some x) : ∃ y : OpV, OpIn y ∧ cs = (opc y).toList := by
  obtain ⟨xs, n, rfl, rfl, hl, hx, hf⟩ := DataW.trod_struct Try.underlying53 h
  have c3 : Try.prog.cellsOf 53 = 3 := by kernel_rfl
  rw [c3] at hl
  match cs, hl with
  | [u0, u1, u2], _ =>
    have g0 : DataW.trod enc Try.prog w base spare held n 3 (List.take (Try.prog.cellsOf 3) (List.drop 0 [u0, u1, u2])) = xs[0]? := hf 0 _ rfl
    have g1 : DataW.trod enc Try.prog w base spare held n 3 (List.take (Try.prog.cellsOf 3) (List.drop 1 [u0, u1, u2])) = xs[1]? := hf 1 _ rfl
    have g2 : DataW.trod enc Try.prog w base spare held n 3 (List.take (Try.prog.cellsOf 3) (List.drop 2 [u0, u1, u2])) = xs[2]? := hf 2 _ rfl
    have t0 : Try.prog.cellsOf 3 = 1 := by kernel_rfl
    rw [t0] at g0 g1 g2
    match xs, hx with
    | [y0, y1, y2], _ =>
      obtain ⟨a, e0, _, w0⟩ := DataW.trod_int Try.underlying3 (g0.trans rfl : _ = some y0)
      obtain ⟨b, e1, _, w1⟩ := DataW.trod_int Try.underlying3 (g1.trans rfl : _ = some y1)
      obtain ⟨c, e2, _, w2⟩ := DataW.trod_int Try.underlying3 (g2.trans rfl : _ = some y2)
      simp at e0 e1 e2
      refine ⟨⟨a, b, c⟩, ⟨bounds_i64 w0, bounds_i64 w1, bounds_i64 w2⟩, ?_⟩
      rw [e0, e1, e2]; rfl

theorem open_ops {H : Type} {enc : TypeId × Value → H} {w : World} {base : Nat} {spare : Nat → Bool} {held : Bool} {fuel : Nat} {cs : List Value} {x : DataW H × List MemPlace}
    (h : DataW.trod enc Try.prog w base spare held fuel 23 cs = some x) : ∃ (ao : Option Addr) (m cap : Nat) (bs : List OpV), cs = [.slice ao m cap] ∧
      (bs.length = m ∧ (m = 0 ∨ ∃ b off, ao = some ⟨b, off, none⟩ ∧ ∀ j t, j < m → t < 3 → w.cell? ⟨b, off + (j * 3 + t), none⟩ = (opc (bs.getD j ⟨0, 0, 0⟩)).toList[t]?)) ∧ ∀ j, j < m → OpIn (bs.getD j ⟨0, 0, 0⟩) := by
  rcases open_slice Try.underlying23 h with ⟨rfl, _⟩ | ⟨a, len, cap, m, n, D, Pl, rfl, hb, hlc, hcm, hm, hx, hi⟩
  · exact ⟨none, 0, 0, [], rfl, ⟨rfl, .inl rfl⟩, fun j hj => absurd hj (by omega)⟩
  have c3 : Try.prog.cellsOf 53 = 3 := by kernel_rfl
  rw [c3] at hi
  have hml : len ≤ m := by rw [hm]; split <;> omega
  obtain ⟨bs, hr, hq⟩ := chosen (⟨0, 0, 0⟩ : OpV) (fun i y => OpIn y ∧ ∀ t, t < 3 → w.cell? (a.add (i * 3 + t)) = (opc y).toList[t]?) len (fun i hil => by
    obtain ⟨cs', hc, ht⟩ := hi i (by omega)
    obtain ⟨y, hy, rfl⟩ := open_op ht
    obtain ⟨_, _, hat⟩ := World.cells?_some hc
    exact ⟨y, hy, fun t ht7 => by rw [← hat t ht7, Go.Deep.add_add]⟩)
  refine ⟨some a, len, cap, bs, rfl, ⟨hr, ?_⟩, fun j hj => (hq j hj).1⟩
  by_cases h0 : len = 0
  · exact .inl h0
  · right
    have ha : a.spot = none := by
      have h1 := (hq 0 (by omega)).2 0 (by omega)
      obtain ⟨ab, ao, asp⟩ := a
      cases asp with
      | none => rfl
      | some z =>
        simp [Addr.add, World.cell?, opc] at h1
        split at h1 <;> simp at h1
    obtain ⟨ab, ao, asp⟩ := a
    simp only at ha
    subst ha
    refine ⟨ab, ao, rfl, fun j t hj ht => ?_⟩
    have hg := (hq j hj).2 t ht
    by_cases hj0 : j * 3 + t = 0
    · rw [hj0] at hg ⊢; exact hg
    · rw [show Addr.add ⟨ab, ao, none⟩ (j * 3 + t) = ⟨ab, ao + (j * 3 + t), none⟩ by rw [Addr.add, if_neg hj0]] at hg
      exact hg
end Go.Proofs.Ytdncodandmjknaa.OC
