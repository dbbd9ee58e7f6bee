/-
  ARGUMENTS OPENED: slices of cells, of words, of ints.
-/
import Derived.Test.YtefamhdkfdgdjaaDoorQJReachP
import Derived.Deep.Slices
import Derived.Deep.Fields
import Derived.ChangeSame
import Derived.ProofKit
import Derived.OpenShut
set_option linter.unusedVariables false
set_option linter.unusedSimpArgs false
set_option maxRecDepth 100000
namespace Go.Proofs.YtefamhdkfdgdjaaDoor.OV
open Go.ChangeShapes Go.WideShapes Go.Deep Go.RowKit Go.Proofs.YtefamhdkfdgdjaaDoor.Hp Go.Proofs.YtefamhdkfdgdjaaDoor.Gp Go.Proofs.YtefamhdkfdgdjaaDoor.Sm Go.Proofs.YtefamhdkfdgdjaaDoor.Gr

theorem chosen {α : Type} (z : α) (Q : Nat → α → Prop) : ∀ n, (∀ i, i < n → ∃ x, Q i x) → ∃ r : List α, r.length = n ∧ ∀ i, i < n → Q i (r.getD i z)
  | 0, _ => ⟨[], rfl, fun i h => absurd h (by omega)⟩
  | n + 1, h => by
    obtain ⟨r, hr, hq⟩ := chosen z Q n (fun i hi => h i (by omega))
    obtain ⟨x, hx⟩ := h n (by omega)
    refine ⟨r ++ [x], by simp [hr], fun i hi => ?_⟩
    by_cases e : i = n
    · subst e
      have : (r ++ [x]).getD i z = x := by simp [List.getD, ← hr]
      rw [this]; exact hx
    · have : (r ++ [x]).getD i z = r.getD i z := by simp [List.getD, List.getElem?_append_left (show i < r.length by omega)]
      rw [this]; exact hq i (by omega)
theorem all_of_getD {α : Type} {z : α} {r : List α} {P : α → Prop} (h : ∀ i, i < r.length → P (r.getD i z)) : ∀ y ∈ r, P y := by
  intro y hy
  obtain ⟨i, hi, rfl⟩ := List.mem_iff_getElem.1 hy
  have := h i hi
  rwa [show r.getD i z = r[i] by simp [List.getD, hi]] at this
/-- One cell of the row, read. -/
theorem open_cell {H : Type} {enc : TypeId × Value → H} {w : World} {base : Nat} {spare : Nat → Bool} {held : Bool} {fuel : Nat} {cs : List Value} {x : DataW H × List MemPlace}
    (h : DataW.trod enc Tryd.prog w base spare held fuel 86 cs = some x) : ∃ y : Cel, InR y ∧ cs = celV y := by
  obtain ⟨xs, n, rfl, rfl, hl, hx, hf⟩ := DataW.trod_struct Tryd.underlying86 h
  have c4 : Tryd.prog.cellsOf 86 = 4 := by kernel_rfl
  rw [c4] at hl
  match cs, hl with
  | [u0, u1, u2, u3], _ =>
    have g0 : DataW.trod enc Tryd.prog w base spare held n 78 (List.take (Tryd.prog.cellsOf 78) (List.drop 0 [u0, u1, u2, u3])) = xs[0]? := hf 0 _ rfl
    have g1 : DataW.trod enc Tryd.prog w base spare held n 27 (List.take (Tryd.prog.cellsOf 27) (List.drop 1 [u0, u1, u2, u3])) = xs[1]? := hf 1 _ rfl
    have g2 : DataW.trod enc Tryd.prog w base spare held n 29 (List.take (Tryd.prog.cellsOf 29) (List.drop 2 [u0, u1, u2, u3])) = xs[2]? := hf 2 _ rfl
    have g3 : DataW.trod enc Tryd.prog w base spare held n 29 (List.take (Tryd.prog.cellsOf 29) (List.drop 3 [u0, u1, u2, u3])) = xs[3]? := hf 3 _ rfl
    have t0 : Tryd.prog.cellsOf 78 = 1 := by kernel_rfl
    have t1 : Tryd.prog.cellsOf 27 = 1 := by kernel_rfl
    have t2 : Tryd.prog.cellsOf 29 = 1 := by kernel_rfl
    rw [t0] at g0; rw [t1] at g1; rw [t2] at g2 g3
    match xs, hx with
    | [y0, y1, y2, y3], _ =>
      obtain ⟨k, e0, _, w0⟩ := DataW.trod_int Tryd.underlying78 (g0.trans rfl : _ = some y0)
      obtain ⟨c, e1, _, w1⟩ := DataW.trod_int Tryd.underlying27 (g1.trans rfl : _ = some y1)
      obtain ⟨a, e2, _, w2⟩ := DataW.trod_int Tryd.underlying29 (g2.trans rfl : _ = some y2)
      obtain ⟨b, e3, _, w3⟩ := DataW.trod_int Tryd.underlying29 (g3.trans rfl : _ = some y3)
      simp at e0 e1 e2 e3
      have b0 := bounds_u8 w0
      have b1 := bounds_u8 w1
      have b2 := bounds_u64 w2
      have b3 := bounds_u64 w3
      refine ⟨⟨k, c, a, b⟩, ⟨by simp; omega, by simp; omega, by simp; omega, by simp; omega, ⟨by simp; omega, by simp; omega⟩, ⟨by simp; omega, by simp; omega⟩⟩, ?_⟩
      rw [e0, e1, e2, e3]; rfl

/-- A slice of cells. -/
theorem open_cells {H : Type} {enc : TypeId × Value → H} {w : World} {base : Nat} {spare : Nat → Bool} {held : Bool} {fuel : Nat} {cs : List Value} {x : DataW H × List MemPlace}
    (h : DataW.trod enc Tryd.prog w base spare held fuel 23 cs = some x) : ∃ (ao : Option Addr) (cap : Nat) (r : List Cel), cs = [.slice ao r.length cap] ∧ RdF w ao (r.length * 4) (flat r) [] ∧ (∀ y ∈ r, InR y) ∧ r.length ≤ cap ∧ cap ≤ maxLen := by
  rcases open_slice Tryd.underlying23 h with ⟨rfl, _⟩ | ⟨a, len, cap, m, n, D, Pl, rfl, hb, hlc, hcm, hm, hx, hi⟩
  · exact ⟨none, 0, [], rfl, ⟨rfl, .inl rfl⟩, by simp, by simp, by simp [maxLen]⟩
  have c4 : Tryd.prog.cellsOf 86 = 4 := by kernel_rfl
  rw [c4] at hi
  have hml : len ≤ m := by rw [hm]; split <;> omega
  obtain ⟨r, hr, hq⟩ := chosen z (fun i y => InR y ∧ ∀ t, t < 4 → w.cell? (a.add (i * 4 + t)) = (celV y)[t]?) len (fun i hil => by
    obtain ⟨cs', hc, ht⟩ := hi i (by omega)
    obtain ⟨y, hy, rfl⟩ := open_cell ht
    obtain ⟨_, _, hat⟩ := World.cells?_some hc
    exact ⟨y, hy, fun t ht4 => by rw [← hat t ht4, Go.Deep.add_add]⟩)
  refine ⟨some a, cap, r, by rw [hr], ⟨flat_len r, ?_⟩, all_of_getD (z := z) (fun i hi => (hq i (by omega)).1), by omega, hcm⟩
  by_cases h0 : len = 0
  · left; rw [hr, h0]
  · right
    have ha : a.spot = none := by
      have h1 := (hq 0 (by omega)).2 0 (by omega)
      obtain ⟨ab, ao, asp⟩ := a
      cases asp with
      | none => rfl
      | some z =>
        simp [Addr.add, World.cell?, celV] at h1
        split at h1 <;> simp at h1
    obtain ⟨ab, ao, asp⟩ := a
    simp only at ha
    subst ha
    refine ⟨ab, ao, rfl, by simp, fun j hj => ?_⟩
    rw [hr] at hj
    have e : j = j / 4 * 4 + j % 4 := by omega
    have h4 : j % 4 < 4 := Nat.mod_lt _ (by omega)
    have hjl : j / 4 < len := by omega
    have hg := (hq (j / 4) hjl).2 (j % 4) h4
    rw [← e] at hg
    have hfl := flat_get r (j / 4) (j % 4) (by omega) h4
    rw [← e] at hfl
    rw [hfl, ← hg]
    by_cases hj0 : j = 0
    · subst hj0; rfl
    · simp [Addr.add, hj0]
theorem open_word {H : Type} {enc : TypeId × Value → H} {w : World} {base : Nat} {spare : Nat → Bool} {held : Bool} {fuel : Nat} {cs : List Value} {x : DataW H × List MemPlace}
    (h : DataW.trod enc Tryd.prog w base spare held fuel 29 cs = some x) : ∃ y : Int, Gp.u64 y ∧ cs = [.int .u64 y] := by
  obtain ⟨a, e, _, wf⟩ := DataW.trod_int Tryd.underlying29 h
  have b := bounds_u64 wf
  exact ⟨a, ⟨by omega, by omega⟩, e⟩
theorem open_int1 {H : Type} {enc : TypeId × Value → H} {w : World} {base : Nat} {spare : Nat → Bool} {held : Bool} {fuel : Nat} {cs : List Value} {x : DataW H × List MemPlace}
    (h : DataW.trod enc Tryd.prog w base spare held fuel 3 cs = some x) : ∃ y : Int, (-9223372036854775808 ≤ y ∧ y ≤ 9223372036854775807) ∧ cs = [.int .i64 y] := by
  obtain ⟨a, e, _, wf⟩ := DataW.trod_int Tryd.underlying3 h
  exact ⟨a, bounds_i64 wf, e⟩
/-- A slice of numbers of one cell each. -/
theorem open_nums {H : Type} {enc : TypeId × Value → H} {P : Program} {w : World} {base : Nat} {spare : Nat → Bool} {held : Bool} {fuel : Nat} {cs : List Value} {x : DataW H × List MemPlace} {t e : TypeId} (k : IntKind) (Q : Int → Prop) (ht : P.underlying t = some (.slice e)) (hc : P.cellsOf e = 1)
    (ho : ∀ {n : Nat} {cs : List Value} {x : DataW H × List MemPlace}, DataW.trod enc P w base spare held n e cs = some x → ∃ y : Int, Q y ∧ cs = [.int k y])
    (h : DataW.trod enc P w base spare held fuel t cs = some x) : ∃ (ao : Option Addr) (cap : Nat) (r : List Int), cs = [.slice ao r.length cap] ∧ RdF w ao r.length (ints k r) [] ∧ (∀ y ∈ r, Q y) ∧ r.length ≤ cap ∧ cap ≤ maxLen := by
  rcases open_slice ht h with ⟨rfl, _⟩ | ⟨a, len, cap, m, n, D, Pl, rfl, hb, hlc, hcm, hm, hx, hi⟩
  · exact ⟨none, 0, [], rfl, ⟨rfl, .inl rfl⟩, by simp, by simp, by simp [maxLen]⟩
  rw [hc] at hi
  have hml : len ≤ m := by rw [hm]; split <;> omega
  obtain ⟨r, hr, hq⟩ := chosen (0 : Int) (fun i y => Q y ∧ w.cell? (a.add i) = some (.int k y)) len (fun i hil => by
    obtain ⟨cs', hcc, ht⟩ := hi i (by omega)
    obtain ⟨y, hy, rfl⟩ := ho ht
    obtain ⟨_, _, hat⟩ := World.cells?_some hcc
    refine ⟨y, hy, ?_⟩
    have := hat 0 (by omega)
    rw [Go.Deep.add_add, Nat.mul_one, Nat.add_zero] at this
    exact this)
  refine ⟨some a, cap, r, by rw [hr], ⟨by simp [ints], ?_⟩, all_of_getD (z := 0) (fun i hi => (hq i (by omega)).1), by omega, hcm⟩
  by_cases h0 : len = 0
  · left; rw [hr, h0]
  · right
    have ha : a.spot = none := by
      have h1 := (hq 0 (by omega)).2
      obtain ⟨ab, ao, asp⟩ := a
      cases asp with
      | none => rfl
      | some z =>
        simp [Addr.add, World.cell?] at h1
        split at h1 <;> simp at h1
    obtain ⟨ab, ao, asp⟩ := a
    simp only at ha
    subst ha
    refine ⟨ab, ao, rfl, by simp, fun j hj => ?_⟩
    rw [hr] at hj
    have hg := (hq j hj).2
    rw [ints_get (by omega), ← hg]
    by_cases hj0 : j = 0
    · subst hj0; rfl
    · simp [Addr.add, hj0]
theorem open_words {H : Type} {enc : TypeId × Value → H} {w : World} {base : Nat} {spare : Nat → Bool} {held : Bool} {fuel : Nat} {cs : List Value} {x : DataW H × List MemPlace}
    (h : DataW.trod enc Tryd.prog w base spare held fuel 25 cs = some x) : ∃ (ao : Option Addr) (cap : Nat) (r : List Int), cs = [.slice ao r.length cap] ∧ RdF w ao r.length (ints .u64 r) [] ∧ (∀ y ∈ r, Gp.u64 y) ∧ r.length ≤ cap ∧ cap ≤ maxLen :=
  open_nums .u64 Gp.u64 Tryd.underlying25 (by kernel_rfl) open_word h
theorem open_intl {H : Type} {enc : TypeId × Value → H} {w : World} {base : Nat} {spare : Nat → Bool} {held : Bool} {fuel : Nat} {cs : List Value} {x : DataW H × List MemPlace}
    (h : DataW.trod enc Tryd.prog w base spare held fuel 26 cs = some x) : ∃ (ao : Option Addr) (cap : Nat) (r : List Int), cs = [.slice ao r.length cap] ∧ RdF w ao r.length (ints .i64 r) [] ∧ (∀ y ∈ r, -9223372036854775808 ≤ y ∧ y ≤ 9223372036854775807) ∧ r.length ≤ cap ∧ cap ≤ maxLen :=
  open_nums .i64 _ Tryd.underlying26 (by kernel_rfl) open_int1 h
end Go.Proofs.YtefamhdkfdgdjaaDoor.OV
