/-
  A LIST OF WORDS THAT GROWS in memory of its own.
-/
import Derived.Test.YtlhhcocdhkbdnaaDoorQClone
set_option linter.unusedVariables false
set_option linter.unusedSimpArgs false
namespace Go.Proofs.YtlhhcocdhkbdnaaDoor.Bp
open Go.RowKit Go.Proofs.YtlhhcocdhkbdnaaDoor.Wd Go.Proofs.YtlhhcocdhkbdnaaDoor.Hp Go.Proofs.YtlhhcocdhkbdnaaDoor.Gp Go.Proofs.YtlhhcocdhkbdnaaDoor.Sm Go.Proofs.YtlhhcocdhkbdnaaDoor.Gr
structure GL (W wr : World) (lv : Value) (L : List Int) (lq : List Nat) : Prop where
  row : Row wr 24 1 lv lq L.length (ints .u64 L)
  fr : ∀ q ∈ lq, W.heap.size ≤ q ∧ q < wr.heap.size
  ch : Ch [] W wr
theorem GL.start (W : World) : GL W W (.slice none 0 0) [] [] := ⟨Row.nil _ _ _ _, (fun q hq => by cases hq), Ch.refl _ _⟩
theorem GL.chg {W wr w1 : World} {lv : Value} {L : List Int} {lq : List Nat} (h : GL W wr lv L lq) (hc : Ch [] wr w1) : GL W w1 lv L lq :=
  ⟨h.row.ch hc (by simp), fun q hq => ⟨(h.fr q hq).1, Nat.lt_of_lt_of_le (h.fr q hq).2 hc.size⟩, h.ch.trans' hc⟩
/-- What others have written does not touch it. -/
theorem GL.beside {W wr w1 : World} {lv : Value} {L : List Int} {lq T : List Nat} (h : GL W wr lv L lq) (hc : Ch T wr w1) (hT : ∀ q ∈ T, W.heap.size ≤ q ∧ q ∉ lq) : GL W w1 lv L lq :=
  ⟨h.row.ch hc (fun q hq hm => (hT q hm).2 hq), fun q hq => ⟨(h.fr q hq).1, Nat.lt_of_lt_of_le (h.fr q hq).2 hc.size⟩, h.ch.trans hc (fun q hq => .inr (hT q hq).1)⟩
theorem GL.push {W wr w2 : World} {lv v' : Value} {L M : List Int} {lq lq' : List Nat} (h : GL W wr lv L lq)
    (hr : Row w2 24 1 v' lq' (L.length + M.length) (ints .u64 L ++ ints .u64 M)) (hc : Ch lq wr w2) (hq : lq' = lq ∨ ∃ q', lq' = [q'] ∧ wr.heap.size ≤ q' ∧ q' < w2.heap.size) : GL W w2 v' (L ++ M) lq' := by
  refine ⟨?_, fun q hm => ?_, h.ch.trans hc (fun q hq => .inr (h.fr q hq).1)⟩
  · rw [List.length_append, show ints .u64 (L ++ M) = ints .u64 L ++ ints .u64 M by simp [ints]]; exact hr
  · rcases hq with rfl | ⟨q', rfl, h1, h2⟩
    · exact ⟨(h.fr q hm).1, Nat.lt_of_lt_of_le (h.fr q hm).2 hc.size⟩
    · simp at hm; subst hm
      exact ⟨Nat.le_trans h.ch.size h1, h2⟩
/-- Two of them. -/
structure G2 (W wr : World) (rv lv : Value) (R L : List Int) (p q : List Nat) : Prop where
  a : GL W wr rv R p
  b : GL W wr lv L q
  d : ∀ x ∈ p, x ∉ q
theorem G2.start (W : World) : G2 W W (.slice none 0 0) (.slice none 0 0) [] [] [] [] := ⟨GL.start W, GL.start W, fun x hx => by cases hx⟩
theorem G2.chg {W wr w1 : World} {rv lv : Value} {R L : List Int} {p q : List Nat} (h : G2 W wr rv lv R L p q) (hc : Ch [] wr w1) : G2 W w1 rv lv R L p q := ⟨h.a.chg hc, h.b.chg hc, h.d⟩
theorem G2.pushA {W wr w2 : World} {rv lv v' : Value} {R L M : List Int} {p q p' : List Nat} (h : G2 W wr rv lv R L p q)
    (hr : Row w2 24 1 v' p' (R.length + M.length) (ints .u64 R ++ ints .u64 M)) (hc : Ch p wr w2) (hq : p' = p ∨ ∃ q', p' = [q'] ∧ wr.heap.size ≤ q' ∧ q' < w2.heap.size) : G2 W w2 v' lv (R ++ M) L p' q :=
  ⟨h.a.push hr hc hq, h.b.beside hc (fun x hx => ⟨(h.a.fr x hx).1, h.d x hx⟩), fun x hx => by
    rcases hq with rfl | ⟨q', rfl, h1, h2⟩
    · exact h.d x hx
    · simp at hx; subst hx
      exact fun hm => by have := (h.b.fr _ hm).2; omega⟩
theorem G2.pushB {W wr w2 : World} {rv lv v' : Value} {R L M : List Int} {p q q2 : List Nat} (h : G2 W wr rv lv R L p q)
    (hr : Row w2 24 1 v' q2 (L.length + M.length) (ints .u64 L ++ ints .u64 M)) (hc : Ch q wr w2) (hq : q2 = q ∨ ∃ q', q2 = [q'] ∧ wr.heap.size ≤ q' ∧ q' < w2.heap.size) : G2 W w2 rv v' R (L ++ M) p q2 :=
  ⟨h.a.beside hc (fun x hx => ⟨(h.b.fr x hx).1, fun hm => h.d x hm hx⟩), h.b.push hr hc hq, fun x hx hm => by
    rcases hq with rfl | ⟨q', rfl, h1, h2⟩
    · exact h.d x hx hm
    · simp at hm; subst hm
      have := (h.a.fr _ hx).2; omega⟩
end Go.Proofs.YtlhhcocdhkbdnaaDoor.Bp
