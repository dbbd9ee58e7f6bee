/-
  AN ARGUMENT THAT IS A SLICE OF dapplelaw13.Step, opened.
-/
import Derived.Test.YtlhhcocdhkbdnaaDoorQJOpenView
import Derived.Test.YtlhhcocdhkbdnaaDoorQKeepL
set_option linter.unusedVariables false
set_option linter.unusedSimpArgs false
set_option maxRecDepth 100000
namespace Go.Proofs.YtlhhcocdhkbdnaaDoor.OV
open Go.ChangeShapes Go.WideShapes Go.Deep Go.RowKit Go.Proofs.YtlhhcocdhkbdnaaDoor.Hp Go.Proofs.YtlhhcocdhkbdnaaDoor.Gp Go.Proofs.YtlhhcocdhkbdnaaDoor.Sm Go.Proofs.YtlhhcocdhkbdnaaDoor.Gr Go.Proofs.YtlhhcocdhkbdnaaDoor.Bp Go.Proofs.YtlhhcocdhkbdnaaDoor.Kp
theorem open_step {H : Type} {enc : TypeId × Value → H} {w : World} {base : Nat} {spare : Nat → Bool} {held : Bool} {fuel : Nat} {cs : List Value} {x : DataW H × List MemPlace}
    (h : DataW.trod enc Tryd.prog w base spare held fuel 86 cs = some x) : ∃ y : S5, SI y ∧ cs = (stA y).toList := by
  obtain ⟨xs, n, rfl, rfl, hl, hx, hf⟩ := DataW.trod_struct Tryd.underlying86 h
  have c5 : Tryd.prog.cellsOf 86 = 5 := by kernel_rfl
  rw [c5] at hl
  match cs, hl with
  | [u0, u1, u2, u3, u4], _ =>
    have g0 : DataW.trod enc Tryd.prog w base spare held n 3 (List.take (Tryd.prog.cellsOf 3) (List.drop 0 [u0, u1, u2, u3, u4])) = xs[0]? := hf 0 _ rfl
    have g1 : DataW.trod enc Tryd.prog w base spare held n 3 (List.take (Tryd.prog.cellsOf 3) (List.drop 1 [u0, u1, u2, u3, u4])) = xs[1]? := hf 1 _ rfl
    have g2 : DataW.trod enc Tryd.prog w base spare held n 3 (List.take (Tryd.prog.cellsOf 3) (List.drop 2 [u0, u1, u2, u3, u4])) = xs[2]? := hf 2 _ rfl
    have g3 : DataW.trod enc Tryd.prog w base spare held n 3 (List.take (Tryd.prog.cellsOf 3) (List.drop 3 [u0, u1, u2, u3, u4])) = xs[3]? := hf 3 _ rfl
    have g4 : DataW.trod enc Tryd.prog w base spare held n 3 (List.take (Tryd.prog.cellsOf 3) (List.drop 4 [u0, u1, u2, u3, u4])) = xs[4]? := hf 4 _ rfl
    have t0 : Tryd.prog.cellsOf 3 = 1 := by kernel_rfl
    rw [t0] at g0 g1 g2 g3 g4
    match xs, hx with
    | [y0, y1, y2, y3, y4], _ =>
      obtain ⟨k, hk, e0⟩ := open_int1 (g0.trans rfl : _ = some y0)
      obtain ⟨wh, hwh, e1⟩ := open_int1 (g1.trans rfl : _ = some y1)
      obtain ⟨a, ha, e2⟩ := open_int1 (g2.trans rfl : _ = some y2)
      obtain ⟨b, hb, e3⟩ := open_int1 (g3.trans rfl : _ = some y3)
      obtain ⟨c, hc, e4⟩ := open_int1 (g4.trans rfl : _ = some y4)
      simp at e0 e1 e2 e3 e4
      refine ⟨⟨k, wh, a, b, c⟩, ⟨ha, hb, hc, hwh⟩, ?_⟩
      rw [e0, e1, e2, e3, e4]; rfl
theorem open_steps {H : Type} {enc : TypeId × Value → H} {w : World} {base : Nat} {spare : Nat → Bool} {held : Bool} {fuel : Nat} {cs : List Value} {x : DataW H × List MemPlace}
    (h : DataW.trod enc Tryd.prog w base spare held fuel 80 cs = some x) : ∃ (so : Option Addr) (sl cap : Nat) (ss : List S5), cs = [.slice so sl cap] ∧ Sts w so sl ss := by
  rcases open_slice Tryd.underlying80 h with ⟨rfl, _⟩ | ⟨a, len, cap, m, n, D, Pl, rfl, hb, hlc, hcm, hm, hx, hi⟩
  · exact ⟨none, 0, 0, [], rfl, ⟨rfl, fun j hj => absurd hj (by omega), .inl rfl⟩⟩
  have c5 : Tryd.prog.cellsOf 86 = 5 := by kernel_rfl
  rw [c5] at hi
  have hml : len ≤ m := by rw [hm]; split <;> omega
  obtain ⟨bs, hr, hq⟩ := chosen (s50 : S5) (fun i y => SI y ∧ ∀ t, t < 5 → w.cell? (a.add (i * 5 + t)) = (stA y).toList[t]?) len (fun i hil => by
    obtain ⟨cs', hc, ht⟩ := hi i (by omega)
    obtain ⟨y, hy, rfl⟩ := open_step ht
    obtain ⟨_, _, hat⟩ := World.cells?_some hc
    exact ⟨y, hy, fun t ht5 => by rw [← hat t ht5, Go.Deep.add_add]⟩)
  refine ⟨some a, len, cap, bs, rfl, ⟨hr, fun j hj => (hq j hj).1, ?_⟩⟩
  by_cases h0 : len = 0
  · exact .inl h0
  · right
    have ha : a.spot = none := by
      have h1 := (hq 0 (by omega)).2 0 (by omega)
      obtain ⟨ab, ao, asp⟩ := a
      cases asp with
      | none => rfl
      | some z =>
        simp [Addr.add, World.cell?, stA] at h1
        split at h1 <;> simp at h1
    obtain ⟨ab, ao, asp⟩ := a
    simp only at ha
    subst ha
    refine ⟨ab, ao, rfl, fun j t hj ht => ?_⟩
    have hg := (hq j hj).2 t ht
    by_cases hj0 : j * 5 + t = 0
    · rw [hj0] at hg ⊢; exact hg
    · rw [show Addr.add ⟨ab, ao, none⟩ (j * 5 + t) = ⟨ab, ao + (j * 5 + t), none⟩ by rw [Addr.add, if_neg hj0]] at hg
      exact hg
end Go.Proofs.YtlhhcocdhkbdnaaDoor.OV
