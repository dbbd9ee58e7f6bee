/-
  ARGUMENTS OPENED: slices of cells, of words, of ints.
  AN ARGUMENT OF TYPE api.View, opened.
-/
import Derived.Test.YtlhhcocdhkbdnaaDoorQJReachP
import Derived.Deep.Slices
import Derived.Deep.Fields
import Derived.ChangeSame
import Derived.ProofKit
import Derived.OpenShut
import Derived.Test.YtlhhcocdhkbdnaaDoorQJView2
import Derived.SizedLaws
set_option linter.unusedVariables false
set_option linter.unusedSimpArgs false
set_option maxRecDepth 100000
namespace Go.Proofs.YtlhhcocdhkbdnaaDoor.OV
open Go.ChangeShapes Go.WideShapes Go.Deep Go.RowKit Go.Proofs.YtlhhcocdhkbdnaaDoor.Hp Go.Proofs.YtlhhcocdhkbdnaaDoor.Gp Go.Proofs.YtlhhcocdhkbdnaaDoor.Sm Go.Proofs.YtlhhcocdhkbdnaaDoor.Gr

theorem chosen {α : Type} (z : α) (Q : Nat → α → Prop) : ∀ n, (∀ i, i < n → ∃ x, Q i x) → ∃ r : List α, r.length = n ∧ ∀ i, i < n → Q i (r.getD i z)
  | 0, _ => ⟨[], rfl, fun i h => absurd h (by omega)⟩
  | n + 1, h => by
    obtain ⟨r, hr, hq⟩ := chosen z Q n (fun i hi => h i (by omega))
    obtain ⟨x, hx⟩ := h n (by omega)
    refine ⟨r ++ [x], by simp [hr], fun i hi => ?_⟩
    by_cases e : i = n
    · subst e
      have : (r ++ [x]).getD i z = x := by simp [List.getD, ← hr]
      rw [this]; exact hx
    · have : (r ++ [x]).getD i z = r.getD i z := by simp [List.getD, List.getElem?_append_left (show i < r.length by omega)]
      rw [this]; exact hq i (by omega)
theorem all_of_getD {α : Type} {z : α} {r : List α} {P : α → Prop} (h : ∀ i, i < r.length → P (r.getD i z)) : ∀ y ∈ r, P y := by
  intro y hy
  obtain ⟨i, hi, rfl⟩ := List.mem_iff_getElem.1 hy
  have := h i hi
  rwa [show r.getD i z = r[i] by simp [List.getD, hi]] at this
/-- One cell of the row, read. -/
theorem open_cell {H : Type} {enc : TypeId × Value → H} {w : World} {base : Nat} {spare : Nat → Bool} {held : Bool} {fuel : Nat} {cs : List Value} {x : DataW H × List MemPlace}
    (h : DataW.trod enc Tryd.prog w base spare held fuel 58 cs = some x) : ∃ y : Cel, InR y ∧ cs = celV y := by
  obtain ⟨xs, n, rfl, rfl, hl, hx, hf⟩ := DataW.trod_struct Tryd.underlying58 h
  have c4 : Tryd.prog.cellsOf 58 = 4 := by kernel_rfl
  rw [c4] at hl
  match cs, hl with
  | [u0, u1, u2, u3], _ =>
    have g0 : DataW.trod enc Tryd.prog w base spare held n 56 (List.take (Tryd.prog.cellsOf 56) (List.drop 0 [u0, u1, u2, u3])) = xs[0]? := hf 0 _ rfl
    have g1 : DataW.trod enc Tryd.prog w base spare held n 55 (List.take (Tryd.prog.cellsOf 55) (List.drop 1 [u0, u1, u2, u3])) = xs[1]? := hf 1 _ rfl
    have g2 : DataW.trod enc Tryd.prog w base spare held n 24 (List.take (Tryd.prog.cellsOf 24) (List.drop 2 [u0, u1, u2, u3])) = xs[2]? := hf 2 _ rfl
    have g3 : DataW.trod enc Tryd.prog w base spare held n 24 (List.take (Tryd.prog.cellsOf 24) (List.drop 3 [u0, u1, u2, u3])) = xs[3]? := hf 3 _ rfl
    have t0 : Tryd.prog.cellsOf 56 = 1 := by kernel_rfl
    have t1 : Tryd.prog.cellsOf 55 = 1 := by kernel_rfl
    have t2 : Tryd.prog.cellsOf 24 = 1 := by kernel_rfl
    rw [t0] at g0; rw [t1] at g1; rw [t2] at g2 g3
    match xs, hx with
    | [y0, y1, y2, y3], _ =>
      obtain ⟨k, e0, _, w0⟩ := DataW.trod_int Tryd.underlying56 (g0.trans rfl : _ = some y0)
      obtain ⟨c, e1, _, w1⟩ := DataW.trod_int Tryd.underlying55 (g1.trans rfl : _ = some y1)
      obtain ⟨a, e2, _, w2⟩ := DataW.trod_int Tryd.underlying24 (g2.trans rfl : _ = some y2)
      obtain ⟨b, e3, _, w3⟩ := DataW.trod_int Tryd.underlying24 (g3.trans rfl : _ = some y3)
      simp at e0 e1 e2 e3
      have b0 := bounds_u8 w0
      have b1 := bounds_u8 w1
      have b2 := bounds_u64 w2
      have b3 := bounds_u64 w3
      refine ⟨⟨k, c, a, b⟩, ⟨by simp; omega, by simp; omega, by simp; omega, by simp; omega, ⟨by simp; omega, by simp; omega⟩, ⟨by simp; omega, by simp; omega⟩⟩, ?_⟩
      rw [e0, e1, e2, e3]; rfl

/-- A slice of cells. -/
theorem open_cells {H : Type} {enc : TypeId × Value → H} {w : World} {base : Nat} {spare : Nat → Bool} {held : Bool} {fuel : Nat} {cs : List Value} {x : DataW H × List MemPlace}
    (h : DataW.trod enc Tryd.prog w base spare held fuel 25 cs = some x) : ∃ (ao : Option Addr) (cap : Nat) (r : List Cel), cs = [.slice ao r.length cap] ∧ RdF w ao (r.length * 4) (flat r) [] ∧ (∀ y ∈ r, InR y) ∧ r.length ≤ cap ∧ cap ≤ maxLen := by
  rcases open_slice Tryd.underlying25 h with ⟨rfl, _⟩ | ⟨a, len, cap, m, n, D, Pl, rfl, hb, hlc, hcm, hm, hx, hi⟩
  · exact ⟨none, 0, [], rfl, ⟨rfl, .inl rfl⟩, by simp, by simp, by simp [maxLen]⟩
  have c4 : Tryd.prog.cellsOf 58 = 4 := by kernel_rfl
  rw [c4] at hi
  have hml : len ≤ m := by rw [hm]; split <;> omega
  obtain ⟨r, hr, hq⟩ := chosen z (fun i y => InR y ∧ ∀ t, t < 4 → w.cell? (a.add (i * 4 + t)) = (celV y)[t]?) len (fun i hil => by
    obtain ⟨cs', hc, ht⟩ := hi i (by omega)
    obtain ⟨y, hy, rfl⟩ := open_cell ht
    obtain ⟨_, _, hat⟩ := World.cells?_some hc
    exact ⟨y, hy, fun t ht4 => by rw [← hat t ht4, Go.Deep.add_add]⟩)
  refine ⟨some a, cap, r, by rw [hr], ⟨flat_len r, ?_⟩, all_of_getD (z := z) (fun i hi => (hq i (by omega)).1), by omega, hcm⟩
  by_cases h0 : len = 0
  · left; rw [hr, h0]
  · right
    have ha : a.spot = none := by
      have h1 := (hq 0 (by omega)).2 0 (by omega)
      obtain ⟨ab, ao, asp⟩ := a
      cases asp with
      | none => rfl
      | some z =>
        simp [Addr.add, World.cell?, celV] at h1
        split at h1 <;> simp at h1
    obtain ⟨ab, ao, asp⟩ := a
    simp only at ha
    subst ha
    refine ⟨ab, ao, rfl, by simp, fun j hj => ?_⟩
    rw [hr] at hj
    have e : j = j / 4 * 4 + j % 4 := by omega
    have h4 : j % 4 < 4 := Nat.mod_lt _ (by omega)
    have hjl : j / 4 < len := by omega
    have hg := (hq (j / 4) hjl).2 (j % 4) h4
    rw [← e] at hg
    have hfl := flat_get r (j / 4) (j % 4) (by omega) h4
    rw [← e] at hfl
    rw [hfl, ← hg]
    by_cases hj0 : j = 0
    · subst hj0; rfl
    · simp [Addr.add, hj0]
theorem open_word {H : Type} {enc : TypeId × Value → H} {w : World} {base : Nat} {spare : Nat → Bool} {held : Bool} {fuel : Nat} {cs : List Value} {x : DataW H × List MemPlace}
    (h : DataW.trod enc Tryd.prog w base spare held fuel 24 cs = some x) : ∃ y : Int, Gp.u64 y ∧ cs = [.int .u64 y] := by
  obtain ⟨a, e, _, wf⟩ := DataW.trod_int Tryd.underlying24 h
  have b := bounds_u64 wf
  exact ⟨a, ⟨by omega, by omega⟩, e⟩
theorem open_int1 {H : Type} {enc : TypeId × Value → H} {w : World} {base : Nat} {spare : Nat → Bool} {held : Bool} {fuel : Nat} {cs : List Value} {x : DataW H × List MemPlace}
    (h : DataW.trod enc Tryd.prog w base spare held fuel 3 cs = some x) : ∃ y : Int, (-9223372036854775808 ≤ y ∧ y ≤ 9223372036854775807) ∧ cs = [.int .i64 y] := by
  obtain ⟨a, e, _, wf⟩ := DataW.trod_int Tryd.underlying3 h
  exact ⟨a, bounds_i64 wf, e⟩
/-- A slice of numbers of one cell each. -/
theorem open_nums {H : Type} {enc : TypeId × Value → H} {P : Program} {w : World} {base : Nat} {spare : Nat → Bool} {held : Bool} {fuel : Nat} {cs : List Value} {x : DataW H × List MemPlace} {t e : TypeId} (k : IntKind) (Q : Int → Prop) (ht : P.underlying t = some (.slice e)) (hc : P.cellsOf e = 1)
    (ho : ∀ {n : Nat} {cs : List Value} {x : DataW H × List MemPlace}, DataW.trod enc P w base spare held n e cs = some x → ∃ y : Int, Q y ∧ cs = [.int k y])
    (h : DataW.trod enc P w base spare held fuel t cs = some x) : ∃ (ao : Option Addr) (cap : Nat) (r : List Int), cs = [.slice ao r.length cap] ∧ RdF w ao r.length (ints k r) [] ∧ (∀ y ∈ r, Q y) ∧ r.length ≤ cap ∧ cap ≤ maxLen := by
  rcases open_slice ht h with ⟨rfl, _⟩ | ⟨a, len, cap, m, n, D, Pl, rfl, hb, hlc, hcm, hm, hx, hi⟩
  · exact ⟨none, 0, [], rfl, ⟨rfl, .inl rfl⟩, by simp, by simp, by simp [maxLen]⟩
  rw [hc] at hi
  have hml : len ≤ m := by rw [hm]; split <;> omega
  obtain ⟨r, hr, hq⟩ := chosen (0 : Int) (fun i y => Q y ∧ w.cell? (a.add i) = some (.int k y)) len (fun i hil => by
    obtain ⟨cs', hcc, ht⟩ := hi i (by omega)
    obtain ⟨y, hy, rfl⟩ := ho ht
    obtain ⟨_, _, hat⟩ := World.cells?_some hcc
    refine ⟨y, hy, ?_⟩
    have := hat 0 (by omega)
    rw [Go.Deep.add_add, Nat.mul_one, Nat.add_zero] at this
    exact this)
  refine ⟨some a, cap, r, by rw [hr], ⟨by simp [ints], ?_⟩, all_of_getD (z := 0) (fun i hi => (hq i (by omega)).1), by omega, hcm⟩
  by_cases h0 : len = 0
  · left; rw [hr, h0]
  · right
    have ha : a.spot = none := by
      have h1 := (hq 0 (by omega)).2
      obtain ⟨ab, ao, asp⟩ := a
      cases asp with
      | none => rfl
      | some z =>
        simp [Addr.add, World.cell?] at h1
        split at h1 <;> simp at h1
    obtain ⟨ab, ao, asp⟩ := a
    simp only at ha
    subst ha
    refine ⟨ab, ao, rfl, by simp, fun j hj => ?_⟩
    rw [hr] at hj
    have hg := (hq j hj).2
    rw [ints_get (by omega), ← hg]
    by_cases hj0 : j = 0
    · subst hj0; rfl
    · simp [Addr.add, hj0]
theorem open_words {H : Type} {enc : TypeId × Value → H} {w : World} {base : Nat} {spare : Nat → Bool} {held : Bool} {fuel : Nat} {cs : List Value} {x : DataW H × List MemPlace}
    (h : DataW.trod enc Tryd.prog w base spare held fuel 62 cs = some x) : ∃ (ao : Option Addr) (cap : Nat) (r : List Int), cs = [.slice ao r.length cap] ∧ RdF w ao r.length (ints .u64 r) [] ∧ (∀ y ∈ r, Gp.u64 y) ∧ r.length ≤ cap ∧ cap ≤ maxLen :=
  open_nums .u64 Gp.u64 Tryd.underlying62 (by kernel_rfl) open_word h
theorem open_intl {H : Type} {enc : TypeId × Value → H} {w : World} {base : Nat} {spare : Nat → Bool} {held : Bool} {fuel : Nat} {cs : List Value} {x : DataW H × List MemPlace}
    (h : DataW.trod enc Tryd.prog w base spare held fuel 50 cs = some x) : ∃ (ao : Option Addr) (cap : Nat) (r : List Int), cs = [.slice ao r.length cap] ∧ RdF w ao r.length (ints .i64 r) [] ∧ (∀ y ∈ r, -9223372036854775808 ≤ y ∧ y ≤ 9223372036854775807) ∧ r.length ≤ cap ∧ cap ≤ maxLen :=
  open_nums .i64 _ Tryd.underlying50 (by kernel_rfl) open_int1 h
end Go.Proofs.YtlhhcocdhkbdnaaDoor.OV

set_option linter.unusedVariables false
set_option linter.unusedSimpArgs false
set_option maxRecDepth 100000
namespace Go.Proofs.YtlhhcocdhkbdnaaDoor.OV
open Go.ChangeShapes Go.WideShapes Go.Deep Go.RowKit Go.Proofs.YtlhhcocdhkbdnaaDoor.Hp Go.Proofs.YtlhhcocdhkbdnaaDoor.Gp Go.Proofs.YtlhhcocdhkbdnaaDoor.Sm Go.Proofs.YtlhhcocdhkbdnaaDoor.Gr Go.Proofs.YtlhhcocdhkbdnaaDoor.Bp

/-- Each list takes no more than a process can hold. -/
def Fits {H : Type} (P : Program) (t : TypeId) (d : DataW H) : Prop := (d.weights P t).all (· ≤ reachBytes) = true
theorem weightsAll_mem {H : Type} {P : Program} {e : TypeId} : ∀ {l : List (DataW H)} {d : DataW H}, d ∈ l → ∀ n ∈ d.weights P e, n ∈ DataW.weightsAll P e l
  | y :: l, d, h, n, hn => by
    simp only [DataW.weightsAll, List.mem_append]
    rcases List.mem_cons.1 h with rfl | h
    · exact .inl hn
    · exact .inr (weightsAll_mem h n hn)
theorem fits_part {H : Type} {P : Program} {t : TypeId} {fs : Array Field} {parts : List (DataW H)} (ht : P.underlying t = some (.struct fs)) (h : Fits P t (.agg parts)) {j : Nat} {f : Field} {d : DataW H} (hf : fs[j]? = some f) (hd : parts[j]? = some d) : Fits P f.type d := by
  unfold Fits at h ⊢
  rw [List.all_eq_true] at h ⊢
  intro n hn
  refine h n ?_
  simp only [DataW.weights, ht]
  exact DataW.weights_mem_each (by simp [hf]) hd n hn
theorem fits_elem {H : Type} {P : Program} {t e : TypeId} {elems spare : List (DataW H)} (ht : P.underlying t = some (.slice e)) (h : Fits P t (.slice elems spare)) {d : DataW H} (hd : d ∈ elems) : Fits P e d := by
  unfold Fits at h ⊢
  rw [List.all_eq_true] at h ⊢
  intro n hn
  refine h n ?_
  simp only [DataW.weights, ht, List.mem_cons, List.mem_append]
  exact .inr (.inl (weightsAll_mem hd n hn))
theorem fits_len {H : Type} {P : Program} {t e : TypeId} {elems spare : List (DataW H)} (ht : P.underlying t = some (.slice e)) (h : Fits P t (.slice elems spare)) (hb : 0 < P.bytesOf e) : elems.length ≤ reachBytes := by
  unfold Fits at h
  rw [List.all_eq_true] at h
  have := h ((elems.length + spare.length) * P.bytesOf e) (by simp [DataW.weights, ht])
  simp only [decide_eq_true_eq] at this
  have h2 : elems.length + spare.length ≤ (elems.length + spare.length) * P.bytesOf e := Nat.le_mul_of_pos_right _ hb
  omega
theorem slice_len {H : Type} {enc : TypeId × Value → H} {P : Program} {w : World} {base : Nat} {spare : Nat → Bool} {held : Bool} {fuel : Nat} {cs : List Value} {x : DataW H × List MemPlace} {t e : TypeId} (ht : P.underlying t = some (.slice e)) (hb : 0 < P.bytesOf e)
    (h : DataW.trod enc P w base spare held fuel t cs = some x) (hw : Fits P t x.1) (ao : Option Addr) (n cap : Nat) (hc : cs = [.slice ao n cap]) : n ≤ reachBytes := by
  rcases open_slice ht h with ⟨rfl, _⟩ | ⟨a, len, cap', m, n', D, Pl, rfl, _, _, _, _, rfl, _⟩
  · simp only [List.cons.injEq, Value.slice.injEq, and_true] at hc
    omega
  · simp only [List.cons.injEq, Value.slice.injEq, and_true] at hc
    have := fits_len ht hw hb
    simp only [List.length_map, List.length_range] at this
    omega
/-- A lane, and where its roots lie. -/
structure LA where
  l : Ln
  ao : Option Addr
  cap : Nat
def LA.vals (x : LA) : List Value := [.slice x.ao x.l.roots.length x.cap, .bool x.l.sc, .bool x.l.en]
def la0 : LA := ⟨ln0, none, 0⟩
/-- What is known of an opened lane. -/
structure LAOk (w : World) (x : LA) : Prop where
  rd : RdF w x.ao x.l.roots.length (ints .u64 x.l.roots) []
  u : ∀ y ∈ x.l.roots, Gp.u64 y
  cap : x.l.roots.length ≤ x.cap ∧ x.cap ≤ maxLen
  n : x.l.roots.length ≤ reachBytes
theorem open_lane {H : Type} {enc : TypeId × Value → H} {w : World} {base : Nat} {spare : Nat → Bool} {held : Bool} {fuel : Nat} {cs : List Value} {x : DataW H × List MemPlace}
    (h : DataW.trod enc Tryd.prog w base spare held fuel 71 cs = some x) (hw : Fits Tryd.prog 71 x.1) : ∃ y : LA, LAOk w y ∧ cs = y.vals := by
  obtain ⟨xs, n, rfl, rfl, hl, hx, hf⟩ := DataW.trod_struct Tryd.underlying71 h
  have c3 : Tryd.prog.cellsOf 71 = 3 := by kernel_rfl
  rw [c3] at hl
  match cs, hl with
  | [u0, u1, u2], _ =>
    have g0 : DataW.trod enc Tryd.prog w base spare held n 62 (List.take (Tryd.prog.cellsOf 62) (List.drop 0 [u0, u1, u2])) = xs[0]? := hf 0 _ rfl
    have g1 : DataW.trod enc Tryd.prog w base spare held n 4 (List.take (Tryd.prog.cellsOf 4) (List.drop 1 [u0, u1, u2])) = xs[1]? := hf 1 _ rfl
    have g2 : DataW.trod enc Tryd.prog w base spare held n 4 (List.take (Tryd.prog.cellsOf 4) (List.drop 2 [u0, u1, u2])) = xs[2]? := hf 2 _ rfl
    have t0 : Tryd.prog.cellsOf 62 = 1 := by kernel_rfl
    have t1 : Tryd.prog.cellsOf 4 = 1 := by kernel_rfl
    rw [t0] at g0; rw [t1] at g1 g2
    match xs, hx with
    | [y0, y1, y2], _ =>
      obtain ⟨ao, cap, r, e0, hr, hi, hle, hmx⟩ := open_words (g0.trans rfl : _ = some y0)
      have hn := slice_len Tryd.underlying62 (by decide +kernel) (g0.trans rfl : _ = some y0) (fits_part Tryd.underlying71 hw (j := 0) rfl rfl) _ _ _ e0
      obtain ⟨sc, e1, _⟩ := DataW.trod_bool Tryd.underlying4 (g1.trans rfl : _ = some y1)
      obtain ⟨en, e2, _⟩ := DataW.trod_bool Tryd.underlying4 (g2.trans rfl : _ = some y2)
      simp at e0 e1 e2
      refine ⟨⟨⟨r, sc, en⟩, ao, cap⟩, ⟨hr, hi, ⟨hle, hmx⟩, hn⟩, ?_⟩
      rw [e0, e1, e2]; rfl
/-- A slice of lanes. -/
theorem open_lanes {H : Type} {enc : TypeId × Value → H} {w : World} {base : Nat} {spare : Nat → Bool} {held : Bool} {fuel : Nat} {cs : List Value} {x : DataW H × List MemPlace}
    (h : DataW.trod enc Tryd.prog w base spare held fuel 63 cs = some x) (hw : Fits Tryd.prog 63 x.1) : ∃ (ao : Option Addr) (cap : Nat) (r : List LA), cs = [.slice ao r.length cap] ∧ (∀ i, i < r.length → LAOk w (r.getD i la0)) ∧ r.length ≤ cap ∧ cap ≤ maxLen ∧
      (r.length = 0 ∨ ∃ b off, ao = some ⟨b, off, none⟩ ∧ ∀ i t, i < r.length → t < 3 → w.cell? ⟨b, off + (i * 3 + t), none⟩ = (r.getD i la0).vals[t]?) := by
  rcases open_slice Tryd.underlying63 h with ⟨rfl, _⟩ | ⟨a, len, cap, m, n, D, Pl, rfl, hb, hlc, hcm, hm, rfl, hi⟩
  · exact ⟨none, 0, [], rfl, fun i hi => absurd hi (by simp), by simp, by simp [maxLen], .inl rfl⟩
  have c3 : Tryd.prog.cellsOf 71 = 3 := by kernel_rfl
  rw [c3] at hi
  have hml : len ≤ m := by rw [hm]; split <;> omega
  obtain ⟨r, hr, hq⟩ := chosen la0 (fun i y => LAOk w y ∧ ∀ t, t < 3 → w.cell? (a.add (i * 3 + t)) = y.vals[t]?) len (fun i hil => by
    obtain ⟨cs', hc, ht⟩ := hi i (by omega)
    obtain ⟨y, hy, rfl⟩ := open_lane ht (fits_elem Tryd.underlying63 hw (List.mem_map.2 ⟨i, List.mem_range.2 hil, rfl⟩))
    obtain ⟨_, _, hat⟩ := World.cells?_some hc
    exact ⟨y, hy, fun t ht4 => by rw [← hat t ht4, Go.Deep.add_add]⟩)
  refine ⟨some a, cap, r, by rw [hr], fun i hi => (hq i (by omega)).1, by omega, hcm, ?_⟩
  by_cases h0 : len = 0
  · left; rw [hr, h0]
  · right
    have ha : a.spot = none := by
      have h1 := (hq 0 (by omega)).2 0 (by omega)
      obtain ⟨ab, ao, asp⟩ := a
      cases asp with
      | none => rfl
      | some z =>
        simp [Addr.add, World.cell?, LA.vals] at h1
        split at h1 <;> simp at h1
    obtain ⟨ab, ao, asp⟩ := a
    simp only at ha
    subst ha
    refine ⟨ab, ao, rfl, fun i t hil ht => ?_⟩
    have hg := (hq i (by omega)).2 t ht
    rw [← hg]
    by_cases hj0 : i * 3 + t = 0
    · rw [hj0]; rfl
    · simp only [Addr.add, hj0, if_false]
/-- What its numbers may be, without a bound on how many. -/
structure VG (v : Vw) : Prop where
  cells : ∀ x ∈ v.cells, InR x
  ph : 0 ≤ v.ph ∧ v.ph < 256
  sw : -9223372036854775808 ≤ v.sw ∧ v.sw ≤ 9223372036854775807
  laid : -9223372036854775808 ≤ v.laid ∧ v.laid ≤ 9223372036854775807
  grey : ∀ x ∈ v.grey, -9223372036854775808 ≤ x ∧ x ≤ 9223372036854775807
  globals : ∀ x ∈ v.globals, Gp.u64 x
  roots : ∀ l ∈ v.lanes, ∀ x ∈ l.roots, Gp.u64 x
/-- What room its lists have. -/
structure VC (a : VA) (v : Vw) : Prop where
  c : v.cells.length ≤ a.cc ∧ a.cc ≤ maxLen
  g : v.grey.length ≤ a.cg ∧ a.cg ≤ maxLen
  gl : v.globals.length ≤ a.cgl ∧ a.cgl ≤ maxLen
  l : v.lanes.length ≤ a.cl ∧ a.cl ≤ maxLen
  r : ∀ j, j < v.lanes.length → (v.lanes.getD j ln0).roots.length ≤ a.lc j ∧ a.lc j ≤ maxLen
  nn : v.cells.length ≤ reachBytes ∧ v.grey.length ≤ reachBytes ∧ v.globals.length ≤ reachBytes ∧ v.lanes.length ≤ reachBytes
  rn : ∀ j, j < v.lanes.length → (v.lanes.getD j ln0).roots.length ≤ reachBytes
theorem VG.vr {v : Vw} (h : VG v) (hn : v.cells.length + v.grey.length + v.globals.length + v.lanes.length + rootsN v.lanes ≤ 20000) : VR v :=
  ⟨h.cells, h.ph, h.sw, h.laid, h.grey, h.globals, h.roots, by omega, by omega, by omega, by omega, by omega⟩
theorem map_getD {α β : Type} (f : α → β) (l : List α) (d : α) (e : β) (i : Nat) (h : i < l.length) : (l.map f).getD i e = f (l.getD i d) := by
  simp [List.getD, h]
theorem open_view {H : Type} {enc : TypeId × Value → H} {w : World} {base : Nat} {spare : Nat → Bool} {held : Bool} {fuel : Nat} {cs : List Value} {x : DataW H × List MemPlace}
    (h : DataW.trod enc Tryd.prog w base spare held fuel 65 cs = some x) (hw : Fits Tryd.prog 65 x.1) : ∃ (a : VA) (v : Vw), cs = (a.arr v).toList ∧ VM w a v ∧ VG v ∧ VC a v := by
  obtain ⟨xs, n, rfl, rfl, hl, hx, hf⟩ := DataW.trod_struct Tryd.underlying65 h
  have c7 : Tryd.prog.cellsOf 65 = 7 := by kernel_rfl
  rw [c7] at hl
  match cs, hl with
  | [u0, u1, u2, u3, u4, u5, u6], _ =>
    have g0 : DataW.trod enc Tryd.prog w base spare held n 25 (List.take (Tryd.prog.cellsOf 25) (List.drop 0 [u0, u1, u2, u3, u4, u5, u6])) = xs[0]? := hf 0 _ rfl
    have g1 : DataW.trod enc Tryd.prog w base spare held n 28 (List.take (Tryd.prog.cellsOf 28) (List.drop 1 [u0, u1, u2, u3, u4, u5, u6])) = xs[1]? := hf 1 _ rfl
    have g2 : DataW.trod enc Tryd.prog w base spare held n 3 (List.take (Tryd.prog.cellsOf 3) (List.drop 2 [u0, u1, u2, u3, u4, u5, u6])) = xs[2]? := hf 2 _ rfl
    have g3 : DataW.trod enc Tryd.prog w base spare held n 50 (List.take (Tryd.prog.cellsOf 50) (List.drop 3 [u0, u1, u2, u3, u4, u5, u6])) = xs[3]? := hf 3 _ rfl
    have g4 : DataW.trod enc Tryd.prog w base spare held n 62 (List.take (Tryd.prog.cellsOf 62) (List.drop 4 [u0, u1, u2, u3, u4, u5, u6])) = xs[4]? := hf 4 _ rfl
    have g5 : DataW.trod enc Tryd.prog w base spare held n 3 (List.take (Tryd.prog.cellsOf 3) (List.drop 5 [u0, u1, u2, u3, u4, u5, u6])) = xs[5]? := hf 5 _ rfl
    have g6 : DataW.trod enc Tryd.prog w base spare held n 63 (List.take (Tryd.prog.cellsOf 63) (List.drop 6 [u0, u1, u2, u3, u4, u5, u6])) = xs[6]? := hf 6 _ rfl
    have t0 : Tryd.prog.cellsOf 25 = 1 := by kernel_rfl
    have t1 : Tryd.prog.cellsOf 28 = 1 := by kernel_rfl
    have t2 : Tryd.prog.cellsOf 3 = 1 := by kernel_rfl
    have t3 : Tryd.prog.cellsOf 50 = 1 := by kernel_rfl
    have t4 : Tryd.prog.cellsOf 62 = 1 := by kernel_rfl
    have t6 : Tryd.prog.cellsOf 63 = 1 := by kernel_rfl
    rw [t0] at g0; rw [t1] at g1; rw [t2] at g2 g5; rw [t3] at g3; rw [t4] at g4; rw [t6] at g6
    match xs, hx with
    | [y0, y1, y2, y3, y4, y5, y6], _ =>
      obtain ⟨ac, cc, hc, e0, c1, c2, c3, c4⟩ := open_cells (g0.trans rfl : _ = some y0)
      obtain ⟨p, e1, _, w1⟩ := DataW.trod_int Tryd.underlying28 (g1.trans rfl : _ = some y1)
      obtain ⟨sw, hsw, e2⟩ := open_int1 (g2.trans rfl : _ = some y2)
      obtain ⟨ag, cg, gr, e3, d1, d2, d3, d4⟩ := open_intl (g3.trans rfl : _ = some y3)
      obtain ⟨agl, cgl, gl, e4, f1, f2, f3, f4⟩ := open_words (g4.trans rfl : _ = some y4)
      obtain ⟨ld, hld, e5⟩ := open_int1 (g5.trans rfl : _ = some y5)
      have q0 := slice_len Tryd.underlying25 (by decide +kernel) (g0.trans rfl : _ = some y0) (fits_part Tryd.underlying65 hw (j := 0) rfl rfl) _ _ _ e0
      have q3 := slice_len Tryd.underlying50 (by decide +kernel) (g3.trans rfl : _ = some y3) (fits_part Tryd.underlying65 hw (j := 3) rfl rfl) _ _ _ e3
      have q4 := slice_len Tryd.underlying62 (by decide +kernel) (g4.trans rfl : _ = some y4) (fits_part Tryd.underlying65 hw (j := 4) rfl rfl) _ _ _ e4
      obtain ⟨al, cl, r, e6, k1, k2, k3, k4⟩ := open_lanes (g6.trans rfl : _ = some y6) (fits_part Tryd.underlying65 hw (j := 6) rfl rfl)
      have q6 := slice_len Tryd.underlying63 (by decide +kernel) (g6.trans rfl : _ = some y6) (fits_part Tryd.underlying65 hw (j := 6) rfl rfl) _ _ _ e6
      simp at e0 e1 e2 e3 e4 e5 e6
      have b1 := bounds_u8 w1
      have hpp : 0 ≤ p ∧ p < 256 := ⟨by omega, by omega⟩
      have hgd : ∀ j, j < r.length → (r.map LA.l).getD j ln0 = (r.getD j la0).l := fun j hj => map_getD LA.l r la0 ln0 j hj
      refine ⟨⟨ac, cc, ag, cg, agl, cgl, al, cl, fun j => (r.getD j la0).ao, fun j => (r.getD j la0).cap⟩, ⟨hc, p, sw, gr, gl, ld, r.map LA.l⟩, ?_, ⟨c1, d1, f1, ?_, fun j hj => ?_, f3⟩, ⟨c2, hpp, hsw, hld, d2, f2, fun l hm x hx => ?_⟩, ⟨⟨c3, c4⟩, ⟨d3, d4⟩, ⟨f3, f4⟩, ⟨by simpa using k2, k3⟩, fun j hj => ?_, ⟨q0, q3, q4, by simpa using q6⟩, fun j hj => ?_⟩⟩
      · rw [e0, e1, e2, e3, e4, e5, e6]
        simp [VA.arr]
      · have hl := lanesV_len ⟨ac, cc, ag, cg, agl, cgl, al, cl, fun j => (r.getD j la0).ao, fun j => (r.getD j la0).cap⟩ ⟨hc, p, sw, gr, gl, ld, r.map LA.l⟩
        refine ⟨hl, ?_⟩
        simp only [List.length_map]
        rcases k4 with k4 | ⟨b, off, rfl, k4⟩
        · left; omega
        · right
          refine ⟨b, off, rfl, by simp, fun j hj => ?_⟩
          have e : j = j / 3 * 3 + j % 3 := by omega
          have h3 : j % 3 < 3 := Nat.mod_lt _ (by omega)
          have hjl : j / 3 < r.length := by omega
          have hg := lanesV_get ⟨ac, cc, ag, cg, agl, cgl, some ⟨b, off, none⟩, cl, fun j => (r.getD j la0).ao, fun j => (r.getD j la0).cap⟩ ⟨hc, p, sw, gr, gl, ld, r.map LA.l⟩ (j / 3) (j % 3) (by simpa using hjl) h3
          rw [← e] at hg
          have hq := k4 (j / 3) (j % 3) hjl h3
          rw [← e] at hq
          rw [hq, hg]
          unfold laneV LA.vals
          simp only [hgd _ hjl]
      · simp only [List.length_map] at hj
        simp only [hgd j hj]
        exact (k1 j hj).rd
      · simp only [List.mem_map] at hm
        obtain ⟨y, hy, rfl⟩ := hm
        obtain ⟨i, hi, rfl⟩ := List.mem_iff_getElem.1 hy
        have := (k1 i hi).u x
        rw [show r.getD i la0 = r[i] by simp [List.getD, hi]] at this
        exact this hx
      · simp only [List.length_map] at hj
        simp only [hgd j hj]
        exact (k1 j hj).cap
      · simp only [List.length_map] at hj
        simp only [hgd j hj]
        exact (k1 j hj).n
end Go.Proofs.YtlhhcocdhkbdnaaDoor.OV
