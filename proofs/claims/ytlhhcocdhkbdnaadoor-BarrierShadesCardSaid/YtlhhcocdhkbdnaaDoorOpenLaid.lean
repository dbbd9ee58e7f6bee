/-
  AN ARGUMENT OF TYPE dapplelaw13.Laid, opened.
-/
import Derived.Test.YtlhhcocdhkbdnaaDoorOpenV
set_option linter.unusedVariables false
set_option linter.unusedSimpArgs false
set_option maxRecDepth 100000
namespace Go.Proofs.YtlhhcocdhkbdnaaDoor.OV
open Go.ChangeShapes Go.WideShapes Go.Deep Go.RowKit Go.Proofs.YtlhhcocdhkbdnaaDoor.Hp Go.Proofs.YtlhhcocdhkbdnaaDoor.Gp Go.Proofs.YtlhhcocdhkbdnaaDoor.Sm Go.Proofs.YtlhhcocdhkbdnaaDoor.Gr

theorem open_laid {H : Type} {enc : TypeId × Value → H} {w : World} {base : Nat} {spare : Nat → Bool} {held : Bool} {fuel : Nat} {cs : List Value} {x : DataW H × List MemPlace}
    (h : DataW.trod enc Tryd.prog w base spare held fuel 27 cs = some x) : ∃ (p : Int) (sc : Bool) (a b : Int) (ao : Option Addr) (cap : Nat) (r : List Cel), cs = [.int .u8 p, .bool sc, .int .u64 a, .int .u64 b, .slice ao r.length cap] ∧ (0 ≤ p ∧ p ≤ 255) ∧ Gp.u64 a ∧ Gp.u64 b ∧ RdF w ao (r.length * 4) (flat r) [] ∧ (∀ y ∈ r, InR y) ∧ r.length ≤ maxLen := by
  obtain ⟨xs, n, rfl, rfl, hl, hx, hf⟩ := DataW.trod_struct Tryd.underlying27 h
  have c5 : Tryd.prog.cellsOf 27 = 5 := by kernel_rfl
  rw [c5] at hl
  match cs, hl with
  | [u0, u1, u2, u3, u4], _ =>
    have g0 : DataW.trod enc Tryd.prog w base spare held n 5 (List.take (Tryd.prog.cellsOf 5) (List.drop 0 [u0, u1, u2, u3, u4])) = xs[0]? := hf 0 _ rfl
    have g1 : DataW.trod enc Tryd.prog w base spare held n 4 (List.take (Tryd.prog.cellsOf 4) (List.drop 1 [u0, u1, u2, u3, u4])) = xs[1]? := hf 1 _ rfl
    have g2 : DataW.trod enc Tryd.prog w base spare held n 24 (List.take (Tryd.prog.cellsOf 24) (List.drop 2 [u0, u1, u2, u3, u4])) = xs[2]? := hf 2 _ rfl
    have g3 : DataW.trod enc Tryd.prog w base spare held n 24 (List.take (Tryd.prog.cellsOf 24) (List.drop 3 [u0, u1, u2, u3, u4])) = xs[3]? := hf 3 _ rfl
    have g4 : DataW.trod enc Tryd.prog w base spare held n 25 (List.take (Tryd.prog.cellsOf 25) (List.drop 4 [u0, u1, u2, u3, u4])) = xs[4]? := hf 4 _ rfl
    have t0 : Tryd.prog.cellsOf 5 = 1 := by kernel_rfl
    have t1 : Tryd.prog.cellsOf 4 = 1 := by kernel_rfl
    have t2 : Tryd.prog.cellsOf 24 = 1 := by kernel_rfl
    have t4 : Tryd.prog.cellsOf 25 = 1 := by kernel_rfl
    rw [t0] at g0; rw [t1] at g1; rw [t2] at g2 g3; rw [t4] at g4
    match xs, hx with
    | [y0, y1, y2, y3, y4], _ =>
      obtain ⟨p, e0, _, w0⟩ := DataW.trod_int Tryd.underlying5 (g0.trans rfl : _ = some y0)
      obtain ⟨sc, e1, _⟩ := DataW.trod_bool Tryd.underlying4 (g1.trans rfl : _ = some y1)
      obtain ⟨a, ha, e2⟩ := open_word (g2.trans rfl : _ = some y2)
      obtain ⟨b, hb, e3⟩ := open_word (g3.trans rfl : _ = some y3)
      obtain ⟨ao, cap, r, e4, hr, hi, hle, hmx⟩ := open_cells (g4.trans rfl : _ = some y4)
      simp at e0 e1 e2 e3 e4
      have b0 := bounds_u8 w0
      refine ⟨p, sc, a, b, ao, cap, r, ?_, ⟨by omega, by omega⟩, ha, hb, hr, hi, Nat.le_trans hle hmx⟩
      rw [e0, e1, e2, e3, e4]
end Go.Proofs.YtlhhcocdhkbdnaaDoor.OV
