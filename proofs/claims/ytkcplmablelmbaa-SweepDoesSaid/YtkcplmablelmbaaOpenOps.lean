/-
  AN ARGUMENT THAT IS A SLICE OF dapplelaw16.Op, opened.
-/
import Derived.Test.YtkcplmablelmbaaSweepDoes
import Derived.Test.YtkcplmablelmbaaOpenCells
set_option linter.unusedVariables false
set_option linter.unusedSimpArgs false
set_option maxRecDepth 100000
namespace Go.Proofs.Ytkcplmablelmbaa.OC
open Go.ChangeShapes Go.WideShapes Go.Deep Go.RowKit Go.Proofs.Ytkcplmablelmbaa.Hp Go.Proofs.Ytkcplmablelmbaa.Cp Go.Proofs.Ytkcplmablelmbaa.Cl Go.Proofs.Ytkcplmablelmbaa.Sw

theorem open_op {H : Type} {enc : TypeId × Value → H} {w : World} {base : Nat} {spare : Nat → Bool} {held : Bool} {fuel : Nat} {cs : List Value} {x : DataW H × List MemPlace}
    (h : DataW.trod enc Try.prog w base spare held fuel 56 cs = some x) : ∃ y : OpV, OpIn y ∧ cs = (opc y).toList := by
  obtain ⟨xs, n, rfl, rfl, hl, hx, hf⟩ := DataW.trod_struct Try.underlying56 h
  have c7 : Try.prog.cellsOf 56 = 7 := by kernel_rfl
  rw [c7] at hl
  match cs, hl with
  | [u0, u1, u2, u3, u4, u5, u6], _ =>
    have g0 : DataW.trod enc Try.prog w base spare held n 3 (List.take (Try.prog.cellsOf 3) (List.drop 0 [u0, u1, u2, u3, u4, u5, u6])) = xs[0]? := hf 0 _ rfl
    have g1 : DataW.trod enc Try.prog w base spare held n 3 (List.take (Try.prog.cellsOf 3) (List.drop 1 [u0, u1, u2, u3, u4, u5, u6])) = xs[1]? := hf 1 _ rfl
    have g2 : DataW.trod enc Try.prog w base spare held n 29 (List.take (Try.prog.cellsOf 29) (List.drop 2 [u0, u1, u2, u3, u4, u5, u6])) = xs[2]? := hf 2 _ rfl
    have g3 : DataW.trod enc Try.prog w base spare held n 5 (List.take (Try.prog.cellsOf 5) (List.drop 6 [u0, u1, u2, u3, u4, u5, u6])) = xs[3]? := hf 3 _ rfl
    have t0 : Try.prog.cellsOf 3 = 1 := by kernel_rfl
    have t2 : Try.prog.cellsOf 29 = 4 := by kernel_rfl
    have t3 : Try.prog.cellsOf 5 = 1 := by kernel_rfl
    rw [t0] at g0 g1; rw [t2] at g2; rw [t3] at g3
    match xs, hx with
    | [y0, y1, y2, y3], _ =>
      obtain ⟨kd, e0, _, w0⟩ := DataW.trod_int Try.underlying3 (g0.trans rfl : _ = some y0)
      obtain ⟨nn, e1, _, w1⟩ := DataW.trod_int Try.underlying3 (g1.trans rfl : _ = some y1)
      obtain ⟨c, hc, e2⟩ := open_cell (g2.trans rfl : _ = some y2)
      obtain ⟨b, e3, _, w3⟩ := DataW.trod_int Try.underlying5 (g3.trans rfl : _ = some y3)
      simp [cel] at e0 e1 e2 e3
      have b3 := bounds_u8 w3
      obtain ⟨q0, q1, q2, q3⟩ := e2
      refine ⟨⟨kd, nn, c, b⟩, ⟨hc, by simp; omega, by simp; omega⟩, ?_⟩
      rw [e0, e1, q0, q1, q2, q3, e3]; rfl

theorem open_ops {H : Type} {enc : TypeId × Value → H} {w : World} {base : Nat} {spare : Nat → Bool} {held : Bool} {fuel : Nat} {cs : List Value} {x : DataW H × List MemPlace}
    (h : DataW.trod enc Try.prog w base spare held fuel 50 cs = some x) : ∃ (ao : Option Addr) (m cap : Nat) (bs : List OpV), cs = [.slice ao m cap] ∧
      (bs.length = m ∧ (m = 0 ∨ ∃ b off, ao = some ⟨b, off, none⟩ ∧ ∀ j t, j < m → t < 7 → w.cell? ⟨b, off + (j * 7 + t), none⟩ = (opc (bs.getD j ⟨0, 0, free, 0⟩)).toList[t]?)) ∧ ∀ j, j < m → OpIn (bs.getD j ⟨0, 0, free, 0⟩) := by
  rcases open_slice Try.underlying50 h with ⟨rfl, _⟩ | ⟨a, len, cap, m, n, D, Pl, rfl, hb, hlc, hcm, hm, hx, hi⟩
  · exact ⟨none, 0, 0, [], rfl, ⟨rfl, .inl rfl⟩, fun j hj => absurd hj (by omega)⟩
  have c7 : Try.prog.cellsOf 56 = 7 := by kernel_rfl
  rw [c7] at hi
  have hml : len ≤ m := by rw [hm]; split <;> omega
  obtain ⟨bs, hr, hq⟩ := chosen (⟨0, 0, free, 0⟩ : OpV) (fun i y => OpIn y ∧ ∀ t, t < 7 → w.cell? (a.add (i * 7 + t)) = (opc y).toList[t]?) len (fun i hil => by
    obtain ⟨cs', hc, ht⟩ := hi i (by omega)
    obtain ⟨y, hy, rfl⟩ := open_op ht
    obtain ⟨_, _, hat⟩ := World.cells?_some hc
    exact ⟨y, hy, fun t ht7 => by rw [← hat t ht7, Go.Deep.add_add]⟩)
  refine ⟨some a, len, cap, bs, rfl, ⟨hr, ?_⟩, fun j hj => (hq j hj).1⟩
  by_cases h0 : len = 0
  · exact .inl h0
  · right
    have ha : a.spot = none := by
      have h1 := (hq 0 (by omega)).2 0 (by omega)
      obtain ⟨ab, ao, asp⟩ := a
      cases asp with
      | none => rfl
      | some z =>
        simp [Addr.add, World.cell?, opc] at h1
        split at h1 <;> simp at h1
    obtain ⟨ab, ao, asp⟩ := a
    simp only at ha
    subst ha
    refine ⟨ab, ao, rfl, fun j t hj ht => ?_⟩
    have hg := (hq j hj).2 t ht
    by_cases hj0 : j * 7 + t = 0
    · rw [hj0] at hg ⊢; exact hg
    · rw [show Addr.add ⟨ab, ao, none⟩ (j * 7 + t) = ⟨ab, ao + (j * 7 + t), none⟩ by rw [Addr.add, if_neg hj0]] at hg
      exact hg
end Go.Proofs.Ytkcplmablelmbaa.OC
