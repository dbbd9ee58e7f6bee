/-
  THE WALK of reaches: the calls over a heap are the document's over the same heap, wherever it lies; what comes out goes into the book.
-/
import Derived.Test.YtggijcebobjghaaDoorQBook4
import Derived.Test.YtggijcebobjghaaDoorQGraph6
import Derived.Test.YtggijcebobjghaaDoorQRef10c
import Derived.Test.YtggijcebobjghaaDoorQJReachP
import Derived.Test.YtggijcebobjghaaDoorQJLentC
import Derived.Test.YtggijcebobjghaaDoorQLaw10n
set_option linter.unusedVariables false
set_option linter.unusedSimpArgs false
set_option maxRecDepth 100000
namespace Go.Proofs.YtggijcebobjghaaDoor.L10
open Go.RowKit Go.Proofs.YtggijcebobjghaaDoor.Wd Go.Proofs.YtggijcebobjghaaDoor.Hp Go.Proofs.YtggijcebobjghaaDoor.Gp Go.Proofs.YtggijcebobjghaaDoor.Sm Go.Proofs.YtggijcebobjghaaDoor.Gr Go.Proofs.YtggijcebobjghaaDoor.Own
/-- A list that is nobody's yet. -/
structure Pend (w0 w : World) (O : Nat → Nat) (e : TypeId) (sz : Nat) (v : Value) (rs : List Nat) (n : Nat) (xs : List Value) : Prop where
  row : Row w e sz v rs n xs
  own : ∀ y ∈ rs, O y = 0 ∧ w0.heap.size ≤ y ∧ y < w.heap.size
theorem Pend.after {w0 w w' : World} {O O' : Nat → Nat} {e : TypeId} {sz n : Nat} {v : Value} {rs rs0 T : List Nat} {xs : List Value} (h : Pend w0 w O e sz v rs n xs) (hc : Ch T w w') (hT : ∀ x ∈ T, O x ≠ 0) (hZ : ∀ y, y < w.heap.size → O y = 0 → y ∉ rs0 → O' y = 0) (hd : ∀ y ∈ rs, y ∉ rs0) : Pend w0 w' O' e sz v rs n xs :=
  ⟨h.row.ch hc (fun y hy hm => hT y hm (h.own y hy).1), fun y hy => ⟨hZ y (h.own y hy).2.2 (h.own y hy).1 (hd y hy), (h.own y hy).2.1, Nat.lt_of_lt_of_le (h.own y hy).2.2 hc.size⟩⟩
theorem Row.trimG {w : World} {e : TypeId} {sz n : Nat} {qs : List Nat} {v : Value} {xs : List Value} (h : Row w e sz v qs n xs) : ∃ rs, Row w e sz v rs n xs ∧ ∀ y ∈ rs, y ∈ qs ∧ y < w.heap.size := by
  obtain ⟨hl, ao, cap, rfl, g1, g2, g3, g4⟩ := h
  rcases g4 with g4 | ⟨q, off, arr, k1, k2, k3, k4, k5⟩
  · exact ⟨[], ⟨hl, ao, cap, rfl, g1, g2, g3, .inl g4⟩, by simp⟩
  · exact ⟨[q], ⟨hl, ao, cap, rfl, g1, g2, g3, .inr ⟨q, off, arr, by simp, k2, k3, k4, k5⟩⟩, fun y hy => by simp at hy; subst hy; exact ⟨k1, lt_of k3⟩⟩
/-- Four lists go into the book. -/
theorem four_in {w0 w : World} {O : Nat → Nat} {bp k : Nat} (hg : G w0 w O) (hb : Bk4 w O bp k k k k) (hk : k ≤ 100) {vb vl vx vy : Value} {rb rl rx ry : List Nat} {nb nl nx ny : Nat} {xb xl xx xy : List Value}
    (pb : Pend w0 w O 4 1 vb rb nb xb) (pl : Pend w0 w O 3 1 vl rl nl xl) (px : Pend w0 w O 55 4 vx rx nx xx) (py : Pend w0 w O 53 1 vy ry ny xy)
    (d1 : ∀ y ∈ rl, y ∉ rb) (d2 : ∀ y ∈ rx, y ∉ rb) (d3 : ∀ y ∈ ry, y ∉ rb) (d4 : ∀ y ∈ rx, y ∉ rl) (d5 : ∀ y ∈ ry, y ∉ rl) (d6 : ∀ y ∈ ry, y ∉ rx) (h1 : nb ≤ 1000000) (h2 : nl ≤ 1000000) (h3 : nx ≤ 1000000) (h4 : ny ≤ 1000000) :
    Calls Tryd.prog 38 #[.pointer (some ⟨bp, 0, none⟩), vb] w fun e w1 => e = .returned (.tuple #[]) ∧
      Calls Tryd.prog 19 #[.pointer (some ⟨bp, 0, none⟩), vl] w1 fun e w2 => e = .returned (.tuple #[]) ∧
        Calls Tryd.prog 39 #[.pointer (some ⟨bp, 0, none⟩), vx] w2 fun e w3 => e = .returned (.tuple #[]) ∧
          Calls Tryd.prog 40 #[.pointer (some ⟨bp, 0, none⟩), vy] w3 fun e w4 => e = .returned (.tuple #[]) ∧ ∃ O' T, G w0 w4 O' ∧ Bk4 w4 O' bp (k + 1) (k + 1) (k + 1) (k + 1) ∧ Ch T w w4 ∧ ∀ x ∈ T, x ∉ rb ∧ x ∉ rl ∧ x ∉ rx ∧ x ∉ ry := by
  refine (Bools_bk4 hg hb pb.row pb.own h1 (by omega)).mono ?_
  rintro e w1 ⟨he, O1, T1, g1, x1, b1, c1, t1, z1⟩
  have t1' : ∀ x ∈ T1, O x ≠ 0 := fun x hx => by rcases t1 x hx with h | h <;> omega
  have y1 := fun y h1 h2 => (z1 y h1 h2).2
  have pl1 := pl.after c1 t1' y1 d1
  have px1 := px.after c1 t1' y1 d2
  have py1 := py.after c1 t1' y1 d3
  refine ⟨he, (Ints_bk4 g1 b1 pl1.row pl1.own h2 (by omega)).mono ?_⟩
  rintro e w2 ⟨he, O2, T2, g2, x2, b2, c2, t2, z2⟩
  have t2' : ∀ x ∈ T2, O1 x ≠ 0 := fun x hx => by rcases t2 x hx with h | h <;> omega
  have y2 := fun y h1 h2 => (z2 y h1 h2).2
  have px2 := px1.after c2 t2' y2 d4
  have py2 := py1.after c2 t2' y2 d5
  refine ⟨he, (Cells_bk4 g2 b2 px2.row px2.own h3 (by omega)).mono ?_⟩
  rintro e w3 ⟨he, O3, T3, g3, x3, b3, c3, t3, z3⟩
  have t3' : ∀ x ∈ T3, O2 x ≠ 0 := fun x hx => by rcases t3 x hx with h | h <;> omega
  have y3 := fun y h1 h2 => (z3 y h1 h2).2
  have py3 := py2.after c3 t3' y3 d6
  refine ⟨he, (Words_bk4 g3 b3 py3.row py3.own h4 (by omega)).mono ?_⟩
  rintro e w4 ⟨he, O4, T4, g4, x4, b4, c4, t4, z4⟩
  have s1 := c1.size
  have s2 := c2.size
  have s3 := c3.size
  refine ⟨he, O4, T1 ++ T2 ++ T3 ++ T4, g4, b4, (((c1.mono (by simp; exact fun x h => .inl h)).trans' (c2.mono (by simp; exact fun x h => .inr (.inl h)))).trans' (c3.mono (by simp; exact fun x h => .inr (.inr (.inl h))))).trans' (c4.mono (by simp; exact fun x h => .inr (.inr (.inr h)))), fun x hx => ?_⟩
  have mv : ∀ {A B : Nat → Nat} {u u' : World} {rs : List Nat} {d e : Nat}, Ext A B → (∀ y, y < u.heap.size → A y = 0 → y ∉ rs → B y = 0) → e ≠ 0 → ∀ y, y < u.heap.size → y ∉ rs → A y = 0 ∨ A y = e → B y = 0 ∨ B y = e := fun hx hz he y hy hn h => by
    rcases h with h | h
    · exact .inl (hz y hy h hn)
    · exact .inr (by rw [hx y (by omega)]; exact h)
  have n21 : ∀ y ∈ rb, y ∉ rl := fun y h1 h2 => d1 y h2 h1
  have n31 : ∀ y ∈ rb, y ∉ rx := fun y h1 h2 => d2 y h2 h1
  have n32 : ∀ y ∈ rl, y ∉ rx := fun y h1 h2 => d4 y h2 h1
  -- whose they are, from step to step
  have vb1 : ∀ y ∈ rb, O1 y = 0 ∨ O1 y = 13 := fun y hy => (z1 y (pb.own y hy).2.2 (pb.own y hy).1).1 hy
  have vb2 : ∀ y ∈ rb, O2 y = 0 ∨ O2 y = 13 := fun y hy => mv (u := w1) (u' := w1) (d := 0) x2 y2 (by omega) y (by have := (pb.own y hy).2.2; omega) (n21 y hy) (vb1 y hy)
  have vb3 : ∀ y ∈ rb, O3 y = 0 ∨ O3 y = 13 := fun y hy => mv (u := w2) (u' := w1) (d := 0) x3 y3 (by omega) y (by have := (pb.own y hy).2.2; omega) (n31 y hy) (vb2 y hy)
  have vl1 : ∀ y ∈ rl, O1 y = 0 := fun y hy => (pl1.own y hy).1
  have vl2 : ∀ y ∈ rl, O2 y = 0 ∨ O2 y = 7 := fun y hy => (z2 y (pl1.own y hy).2.2 (pl1.own y hy).1).1 hy
  have vl3 : ∀ y ∈ rl, O3 y = 0 ∨ O3 y = 7 := fun y hy => mv (u := w2) (u' := w1) (d := 0) x3 y3 (by omega) y (by have := (pl.own y hy).2.2; omega) (n32 y hy) (vl2 y hy)
  have vx1 : ∀ y ∈ rx, O1 y = 0 := fun y hy => (px1.own y hy).1
  have vx2 : ∀ y ∈ rx, O2 y = 0 := fun y hy => (px2.own y hy).1
  have vx3 : ∀ y ∈ rx, O3 y = 0 ∨ O3 y = 11 := fun y hy => (z3 y (px2.own y hy).2.2 (px2.own y hy).1).1 hy
  have vy1 : ∀ y ∈ ry, O1 y = 0 := fun y hy => (py1.own y hy).1
  have vy2 : ∀ y ∈ ry, O2 y = 0 := fun y hy => (py2.own y hy).1
  have vy3 : ∀ y ∈ ry, O3 y = 0 := fun y hy => (py3.own y hy).1
  simp only [List.mem_append] at hx
  rcases hx with ((hx | hx) | hx) | hx
  · have h := t1 x hx
    exact ⟨fun hm => by have := (pb.own x hm).1; omega, fun hm => by have := (pl.own x hm).1; omega, fun hm => by have := (px.own x hm).1; omega, fun hm => by have := (py.own x hm).1; omega⟩
  · have h := t2 x hx
    exact ⟨fun hm => by have := vb1 x hm; omega, fun hm => by have := vl1 x hm; omega, fun hm => by have := vx1 x hm; omega, fun hm => by have := vy1 x hm; omega⟩
  · have h := t3 x hx
    exact ⟨fun hm => by have := vb2 x hm; omega, fun hm => by have := vl2 x hm; omega, fun hm => by have := vx2 x hm; omega, fun hm => by have := vy2 x hm; omega⟩
  · have h := t4 x hx
    exact ⟨fun hm => by have := vb3 x hm; omega, fun hm => by have := vl3 x hm; omega, fun hm => by have := vx3 x hm; omega, fun hm => by have := vy3 x hm; omega⟩
end Go.Proofs.YtggijcebobjghaaDoor.L10
