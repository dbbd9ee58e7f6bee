/-
  BarrierKeeps' own view in memory (no walk): who owns which block.
  BarrierKeeps' own view in memory, on: each change of it.
  BarrierKeeps' own view in memory, on (no walk): as it is being made.
-/
import Derived.Test.YtlhhcocdhkbdnaaDoorQJKeepP8
import Derived.Test.YtlhhcocdhkbdnaaDoorQJBookSt
import Derived.Test.YtlhhcocdhkbdnaaDoorQJApp
set_option linter.unusedVariables false
set_option linter.unusedSimpArgs false
set_option maxRecDepth 100000
namespace Go.Proofs.YtlhhcocdhkbdnaaDoor.Kp
open Go.RowKit Go.Proofs.YtlhhcocdhkbdnaaDoor.Wd Go.Proofs.YtlhhcocdhkbdnaaDoor.Hp Go.Proofs.YtlhhcocdhkbdnaaDoor.Gp Go.Proofs.YtlhhcocdhkbdnaaDoor.Sm Go.Proofs.YtlhhcocdhkbdnaaDoor.Gr Go.Proofs.YtlhhcocdhkbdnaaDoor.Bp Go.Proofs.YtlhhcocdhkbdnaaDoor.Own
/-- A row of somebody's. -/
def OR (w : World) (O : Nat → Nat) (id : Nat) (e : TypeId) (sz : Nat) (ao : Option Addr) (n cap : Nat) (xs : List Value) : Prop := ∃ q, Row w e sz (.slice ao n cap) q n xs ∧ ∀ x ∈ q, O x = id
theorem OR.keep {w w' : World} {O O' : Nat → Nat} {id : Nat} {e : TypeId} {sz : Nat} {ao : Option Addr} {n cap : Nat} {xs : List Value} {T : List Nat} (h : OR w O id e sz ao n cap xs) (h0 : id ≠ 0) (hc : Ch T w w') (hx : Ext O O') (hT : ∀ x ∈ T, O x ≠ id) : OR w' O' id e sz ao n cap xs := by
  obtain ⟨q, h1, h2⟩ := h
  exact ⟨q, h1.ch hc (fun x hm => apart (h2 x hm) hT), fun x hm => by rw [hx x (by rw [h2 x hm]; exact h0)]; exact h2 x hm⟩
theorem OR.rd {w : World} {O : Nat → Nat} {id : Nat} {e : TypeId} {sz : Nat} {ao : Option Addr} {n cap : Nat} {xs : List Value} (h : OR w O id e sz ao n cap xs) : Hp.Rd w ao (n * sz) xs ∧ n ≤ cap ∧ cap ≤ maxLen := by
  obtain ⟨q, h1, _⟩ := h
  obtain ⟨ao', cap', e1, a, b, c⟩ := h1.rd
  simp only [Value.slice.injEq, true_and] at e1
  obtain ⟨rfl, rfl⟩ := e1
  exact ⟨c, a, b⟩
/-- Where a row that is not empty lies; one of its cells is written. -/
theorem OR.at_ {w : World} {O : Nat → Nat} {id : Nat} {e : TypeId} {sz : Nat} {ao : Option Addr} {n cap : Nat} {xs : List Value} (h : OR w O id e sz ao n cap xs) (hn : 0 < n * sz) : ∃ q off, ao = some ⟨q, off, none⟩ ∧ O q = id ∧ (∀ j, j < n * sz → w.cell? ⟨q, off + j, none⟩ = xs[j]?) ∧ (∀ j, w.frozen? ⟨q, off + j, none⟩ = false) ∧
    ∀ j u, j < n * sz → OR (w.setCell ⟨q, off + j, none⟩ u) O id e sz ao n cap (xs.set j u) := by
  obtain ⟨qs, ⟨hl, ao', cap', e1, a, b, c, d⟩, h2⟩ := h
  simp only [Value.slice.injEq, true_and] at e1
  obtain ⟨rfl, rfl⟩ := e1
  have hcap : cap ≠ 0 := fun e => by subst e; obtain rfl : n = 0 := by omega
                                     simp at hn
  obtain ⟨q, off, arr, hq, ha, hh, hr, hj⟩ := d.resolve_left hcap
  refine ⟨q, off, ha, h2 q hq, fun j hjl => (cell_at hh).trans (hj j hjl), fun j => free_at hh, fun j u hjl => ⟨qs, ⟨by rw [List.length_set]; exact hl, ao, cap, rfl, a, b, c, .inr ⟨q, off, arr.setIfInBounds (off + j) u, hq, ha, heap_set hh u, by simpa using hr, fun i hi => ?_⟩⟩, h2⟩⟩
  rw [Array.getElem?_setIfInBounds]
  by_cases e : off + j = off + i
  · obtain rfl : j = i := by omega
    rw [if_pos rfl, if_pos (by have : n * sz ≤ cap * sz := Nat.mul_le_mul_right _ a; omega), List.getElem?_set_self (by omega)]
  · rw [if_neg e, List.getElem?_set_ne (by omega)]; exact hj i hi
/-- The view that is one's own. -/
structure WM (w0 w : World) (O : Nat → Nat) (wp : Nat) (a : VA) (v : Vw) : Prop where
  g : G w0 w O
  hp : w.heap[wp]? = some (.cells (a.arr v) 83 (0, 0))
  o1 : O wp = 1
  cs : OR w O 2 58 4 a.ac v.cells.length a.cc (flat v.cells)
  gr : OR w O 3 3 1 a.ag v.grey.length a.cg (ints .i64 v.grey)
  gl : OR w O 4 24 1 a.agl v.globals.length a.cgl (ints .u64 v.globals)
  ln : OR w O 5 71 3 a.al v.lanes.length a.cl (lanesV a v)
  rt : ∀ j, j < v.lanes.length → OR w O (6 + j) 24 1 (a.la j) (v.lanes.getD j ln0).roots.length (a.lc j) (ints .u64 (v.lanes.getD j ln0).roots)
section
variable {w0 w w' : World} {O O' : Nat → Nat} {wp : Nat} {a : VA} {v : Vw} {T : List Nat}
theorem WM.fresh (h : WM w0 w O wp a v) {x : Nat} (hx : w.heap.size ≤ x) : O x = 0 := by
  rcases Nat.eq_zero_or_pos (O x) with e | e
  · exact e
  · have := h.g.ow x (by omega); omega
theorem WM.chs (h : WM w0 w O wp a v) (hc : Ch [] w w') : WM w0 w' O wp a v :=
  ⟨h.g.step hc (by simp), hc.heap h.hp (by simp), h.o1, h.cs.keep (by omega) hc (Ext.refl O) (by simp), h.gr.keep (by omega) hc (Ext.refl O) (by simp), h.gl.keep (by omega) hc (Ext.refl O) (by simp), h.ln.keep (by omega) hc (Ext.refl O) (by simp), fun j hj => (h.rt j hj).keep (by omega) hc (Ext.refl O) (by simp)⟩
theorem rdF_of {ao : Option Addr} {n : Nat} {xs : List Value} (h : Hp.Rd w ao n xs) : RdF w ao n xs [] := ⟨h.1, h.2.imp id (fun ⟨b, off, a, c⟩ => ⟨b, off, a, by simp, c⟩)⟩
theorem WM.vm (h : WM w0 w O wp a v) : VM w a v :=
  ⟨rdF_of h.cs.rd.1, rdF_of (by simpa using h.gr.rd.1), rdF_of (by simpa using h.gl.rd.1), rdF_of h.ln.rd.1, fun j hj => rdF_of (by simpa using (h.rt j hj).rd.1), h.gl.rd.2.1⟩
theorem WM.wpc (h : WM w0 w O wp a v) (i : Nat) : w.cell? ⟨wp, i, none⟩ = (a.arr v)[i]? := cell_at h.hp
/-- One cell of the memory that somebody has is written. -/
theorem set_keep {id : Nat} {e : TypeId} {sz : Nat} {ao : Option Addr} {n cap : Nat} {xs : List Value} (h : OR w O id e sz ao n cap xs) (h0 : id ≠ 0) {p : Addr} {u : Value} (hp : O p.block ≠ id) : OR (w.setCell p u) O id e sz ao n cap xs :=
  h.keep h0 ((Ch.refl [p.block] w).setCell _ _ (.inl (by simp))) (Ext.refl O) (fun x hx => by simp at hx; rw [hx]; exact hp)
theorem set_g (h : G w0 w O) {p : Addr} {u : Value} (hp : O p.block ≠ 0) : G w0 (w.setCell p u) O := h.step ((Ch.refl [p.block] w).setCell _ _ (.inl (by simp))) (fun x hx => by simp at hx; rw [hx]; exact .inl hp)
theorem set_hp {o : Obj} {k : Nat} (h : w.heap[k]? = some o) {p : Addr} {u : Value} (hp : k ≠ p.block) : (w.setCell p u).heap[k]? = some o := by
  obtain ⟨b, i, s⟩ := p
  exact ((Ch.refl [b] w).setCell ⟨b, i, s⟩ u (.inl (by simp))).heap h (by simpa using hp)
/-- A cell of the view is written. -/
theorem flat_set1 {l : List Cel} {c t : Nat} {y : Cel} {u : Value} (hc : c < l.length) (ht : t < 4) (hy : celV y = (celV (l.getD c z)).set t u) : (flat l).set (c * 4 + t) u = flat (l.set c y) := by
  apply List.ext_getElem?
  intro m
  by_cases hm : m < l.length * 4
  · have h4 : m % 4 < 4 := Nat.mod_lt _ (by omega)
    have hi : m / 4 < l.length := by omega
    have e : m / 4 * 4 + m % 4 = m := by omega
    have g2 := flat_get (l.set c y) (m / 4) (m % 4) (by rw [List.length_set]; exact hi) h4
    have g1 := flat_get l (m / 4) (m % 4) hi h4
    rw [e] at g1 g2
    rw [g2, getD_setZ _ _ _ _ hc]
    by_cases e1 : m / 4 = c
    · rw [if_pos e1, hy]
      by_cases e2 : m % 4 = t
      · have hmt : m = c * 4 + t := by omega
        rw [e2, List.getElem?_set_self (by simp [celV]; omega), hmt, List.getElem?_set_self (by rw [flat_len]; omega)]
      · rw [List.getElem?_set_ne (by omega), List.getElem?_set_ne (by omega), g1, e1]
    · rw [if_neg e1, List.getElem?_set_ne (by omega), g1]
  · rw [List.getElem?_eq_none (by rw [List.length_set, flat_len]; omega), List.getElem?_eq_none (by rw [flat_len, List.length_set]; omega)]
theorem WM.cell (h : WM w0 w O wp a v) {c : Nat} (hc : c < v.cells.length) : ∃ q off, a.ac = some ⟨q, off, none⟩ ∧ (∀ i t, i < v.cells.length → t < 4 → w.cell? ⟨q, off + (i * 4 + t), none⟩ = (celV (cel v i))[t]?) ∧ (∀ j, w.frozen? ⟨q, off + j, none⟩ = false) ∧
    ∀ t u y, t < 4 → celV y = (celV (cel v c)).set t u → WM w0 (w.setCell ⟨q, off + (c * 4 + t), none⟩ u) O wp a { v with cells := v.cells.set c y } := by
  obtain ⟨q, off, e1, e2, e3, e4, e5⟩ := h.cs.at_ (by omega)
  refine ⟨q, off, e1, fun i t hi ht => (e3 _ (by omega)).trans (flat_get v.cells i t hi ht), e4, fun t u y ht hy => ?_⟩
  have hq : O q ≠ 0 := by omega
  have hne : wp ≠ q := fun e => by subst e; have := h.o1; omega
  refine ⟨set_g h.g hq, ?_, h.o1, ?_, set_keep h.gr (by omega) (by show O q ≠ 3; omega), set_keep h.gl (by omega) (by show O q ≠ 4; omega), set_keep h.ln (by omega) (by show O q ≠ 5; omega), fun j hj => set_keep (h.rt j hj) (by omega) (by show O q ≠ 6 + j; omega)⟩
  · have := set_hp h.hp (p := ⟨q, off + (c * 4 + t), none⟩) (u := u) hne
    rw [this]
    simp [VA.arr]
  · have := e5 (c * 4 + t) u (by omega)
    rw [flat_set1 hc ht hy] at this
    simpa using this
end
end Go.Proofs.YtlhhcocdhkbdnaaDoor.Kp

set_option linter.unusedVariables false
set_option linter.unusedSimpArgs false
set_option maxRecDepth 100000
namespace Go.Proofs.YtlhhcocdhkbdnaaDoor.Kp
open Go.RowKit Go.Proofs.YtlhhcocdhkbdnaaDoor.Wd Go.Proofs.YtlhhcocdhkbdnaaDoor.Hp Go.Proofs.YtlhhcocdhkbdnaaDoor.Gp Go.Proofs.YtlhhcocdhkbdnaaDoor.Sm Go.Proofs.YtlhhcocdhkbdnaaDoor.Gr Go.Proofs.YtlhhcocdhkbdnaaDoor.Bp Go.Proofs.YtlhhcocdhkbdnaaDoor.Own
section
variable {w0 w w1 w' : World} {O O' : Nat → Nat} {wp : Nat} {a : VA} {v : Vw} {T : List Nat}
theorem ints_set (l : List Int) (k : Nat) (x : Int) : (ints .u64 l).set k (.int .u64 x) = ints .u64 (l.set k x) := by simp [ints, List.map_set]
theorem WM.glob (h : WM w0 w O wp a v) {k : Nat} (hk : k < v.globals.length) : ∃ q off, a.agl = some ⟨q, off, none⟩ ∧ (∀ i, i < v.globals.length → w.cell? ⟨q, off + i, none⟩ = some (.int .u64 (v.globals.getD i 0))) ∧ (∀ j, w.frozen? ⟨q, off + j, none⟩ = false) ∧
    ∀ x : Int, WM w0 (w.setCell ⟨q, off + k, none⟩ (.int .u64 x)) O wp a (setG v k x) := by
  obtain ⟨q, off, e1, e2, e3, e4, e5⟩ := h.gl.at_ (by omega)
  refine ⟨q, off, e1, fun i hi => (e3 _ (by omega)).trans (ints_get hi), e4, fun x => ?_⟩
  have hq : O q ≠ 0 := by omega
  have hne : wp ≠ q := fun e => by subst e; have := h.o1; omega
  refine ⟨set_g h.g hq, ?_, h.o1, set_keep h.cs (by omega) (by show O q ≠ 2; omega), set_keep h.gr (by omega) (by show O q ≠ 3; omega), ?_, set_keep h.ln (by omega) (by show O q ≠ 5; omega), fun j hj => set_keep (h.rt j hj) (by omega) (by show O q ≠ 6 + j; omega)⟩
  · have := set_hp h.hp (p := ⟨q, off + k, none⟩) (u := .int .u64 x) hne
    rw [this]
    simp [VA.arr, setG]
  · have := e5 k (.int .u64 x) (by omega)
    rw [ints_set] at this
    simpa [setG] using this
/-- A field of the world's own is written. -/
theorem WM.own (h : WM w0 w O wp a v) (i : Nat) (u : Value) : (w.setCell ⟨wp, i, none⟩ u).heap[wp]? = some (.cells ((a.arr v).setIfInBounds i u) 83 (0, 0)) := heap_set h.hp u
theorem WM.laidS (h : WM w0 w O wp a v) (x : Int) : WM w0 (w.setCell ⟨wp, 5, none⟩ (.int .i64 x)) O wp a { v with laid := x } := by
  have hq : O wp ≠ 0 := by rw [h.o1]; omega
  refine ⟨set_g h.g hq, (h.own 5 _).trans rfl, h.o1, set_keep h.cs (by omega) (by show O wp ≠ 2; rw [h.o1]; omega), set_keep h.gr (by omega) (by show O wp ≠ 3; rw [h.o1]; omega), set_keep h.gl (by omega) (by show O wp ≠ 4; rw [h.o1]; omega), set_keep h.ln (by omega) (by show O wp ≠ 5; rw [h.o1]; omega), fun j hj => set_keep (h.rt j hj) (by omega) (by show O wp ≠ 6 + j; rw [h.o1]; omega)⟩
/-- Owner id gets its new blocks; all others keep theirs. -/
theorem WM.turn (h : WM w0 w O wp a v) {id : Nat} {q : List Nat} (h0 : id ≠ 0) (hc : Ch T w w1) (hT : ∀ x ∈ T, O x = id) (hq : ∀ x ∈ q, O x = id ∨ (w.heap.size ≤ x ∧ x < w1.heap.size)) : G w0 w1 (put O id q) ∧ Ext O (put O id q) ∧ ∀ x ∈ q, put O id q x = id := by
  have g1 := h.g.step hc (fun x hx => .inl (by rw [hT x hx]; exact h0))
  have hs := h.g.ch.size
  exact ⟨g1.put id q (fun x hx => (hq x hx).imp (fun e => e) (fun e => by omega)), put_ext (w' := w) h.g id q (fun x hx => (hq x hx).imp (fun e => e) (fun e => e.1)), put_at O id q⟩
/-- The grey cells' list is another one. -/
theorem WM.greyS (h : WM w0 w O wp a v) {ao : Option Addr} {cap : Nat} {q : List Nat} {g : List Int} (hr : Row w1 3 1 (.slice ao g.length cap) q g.length (ints .i64 g)) (hc : Ch T w w1) (hT : ∀ x ∈ T, O x = 3) (hq : ∀ x ∈ q, O x = 3 ∨ (w.heap.size ≤ x ∧ x < w1.heap.size)) :
    WM w0 (w1.setCell ⟨wp, 3, none⟩ (.slice ao g.length cap)) (put O 3 q) wp { a with ag := ao, cg := cap } { v with grey := g } := by
  obtain ⟨g1, hx, hp⟩ := h.turn (id := 3) (by omega) hc hT hq
  have hw1 : put O 3 q wp = 1 := by rw [hx wp (by rw [h.o1]; omega)]; exact h.o1
  have hpw : O wp = 1 := h.o1
  have hh := hc.heap h.hp (fun hm => by have := hT wp hm; omega)
  refine ⟨set_g g1 (by rw [hw1]; omega), ?_, hw1, ?_, ?_, ?_, ?_, fun j hj => ?_⟩
  · exact (heap_set hh _).trans rfl
  · exact set_keep (h.cs.keep (by omega) hc hx (fun x hm => by rw [hT x hm]; omega)) (by omega) (by show put O 3 q wp ≠ 2; rw [hw1]; omega)
  · exact set_keep ⟨q, hr, hp⟩ (by omega) (by show put O 3 q wp ≠ 3; rw [hw1]; omega)
  · exact set_keep (h.gl.keep (by omega) hc hx (fun x hm => by rw [hT x hm]; omega)) (by omega) (by show put O 3 q wp ≠ 4; rw [hw1]; omega)
  · exact set_keep (h.ln.keep (by omega) hc hx (fun x hm => by rw [hT x hm]; omega)) (by omega) (by show put O 3 q wp ≠ 5; rw [hw1]; omega)
  · exact set_keep ((h.rt j hj).keep (by omega) hc hx (fun x hm => by rw [hT x hm]; omega)) (by omega) (by show put O 3 q wp ≠ 6 + j; rw [hw1]; omega)
theorem lanes_set {a a' : VA} {v v' : Vw} {j t : Nat} {u : Value} (hl : v'.lanes.length = v.lanes.length) (hj : j < v.lanes.length) (ht : t < 3) (h1 : ∀ i, i ≠ j → laneV a' v' i = laneV a v i) (h2 : laneV a' v' j = (laneV a v j).set t u) : (lanesV a v).set (j * 3 + t) u = lanesV a' v' := by
  apply List.ext_getElem?
  intro m
  by_cases hm : m < v.lanes.length * 3
  · have h4 : m % 3 < 3 := Nat.mod_lt _ (by omega)
    have hi : m / 3 < v.lanes.length := by omega
    have e : m / 3 * 3 + m % 3 = m := by omega
    have g2 := lanesV_get a' v' (m / 3) (m % 3) (by rw [hl]; exact hi) h4
    have g1 := lanesV_get a v (m / 3) (m % 3) hi h4
    rw [e] at g1 g2
    rw [g2]
    by_cases e1 : m / 3 = j
    · rw [e1, h2]
      by_cases e2 : m % 3 = t
      · have hmt : m = j * 3 + t := by omega
        rw [e2, List.getElem?_set_self (by simp [laneV]; omega), hmt, List.getElem?_set_self (by rw [lanesV_len]; omega)]
      · rw [List.getElem?_set_ne (by omega), List.getElem?_set_ne (by omega), g1, e1]
    · rw [h1 _ e1, List.getElem?_set_ne (by omega), g1]
  · rw [List.getElem?_eq_none (by rw [List.length_set, lanesV_len]; omega), List.getElem?_eq_none (by rw [lanesV_len, hl]; omega)]
theorem lane_set_at (v : Vw) (j : Nat) (l : Ln) (hj : j < v.lanes.length) (i : Nat) : (setL v j l).lanes.getD i ln0 = if i = j then l else v.lanes.getD i ln0 := by
  show (v.lanes.set j l).getD i ln0 = _
  by_cases e : i = j
  · subst e; rw [if_pos rfl]; simp [List.getD_eq_getElem?_getD, hj]
  · rw [if_neg e, List.getD_eq_getElem?_getD, List.getElem?_set_ne (Ne.symm e), ← List.getD_eq_getElem?_getD]
/-- Where a lane lies. -/
theorem WM.lane (h : WM w0 w O wp a v) {j : Nat} (hj : j < v.lanes.length) : ∃ q off, a.al = some ⟨q, off, none⟩ ∧ O q = 5 ∧ (∀ i t, i < v.lanes.length → t < 3 → w.cell? ⟨q, off + (i * 3 + t), none⟩ = (laneV a v i)[t]?) ∧ (∀ i, w.frozen? ⟨q, off + i, none⟩ = false) := by
  obtain ⟨q, off, e1, e2, e3, e4, e5⟩ := h.ln.at_ (by omega)
  exact ⟨q, off, e1, e2, fun i t hi ht => (e3 _ (by omega)).trans (lanesV_get a v i t hi ht), e4⟩
def laU (a : VA) (j : Nat) (ro : Option Addr) (cap : Nat) : VA := { a with la := fun i => if i = j then ro else a.la i, lc := fun i => if i = j then cap else a.lc i }
/-- A lane has other words. -/
theorem WM.laneR (h : WM w0 w O wp a v) {j : Nat} (hj : j < v.lanes.length) {q off : Nat} (hal : a.al = some ⟨q, off, none⟩) {ro : Option Addr} {cap : Nat} {qs : List Nat} {r : List Int} (hr : Row w1 24 1 (.slice ro r.length cap) qs r.length (ints .u64 r)) (hc : Ch T w w1) (hT : ∀ x ∈ T, O x = 6 + j) (hq : ∀ x ∈ qs, O x = 6 + j ∨ (w.heap.size ≤ x ∧ x < w1.heap.size)) :
    WM w0 (w1.setCell ⟨q, off + j * 3, none⟩ (.slice ro r.length cap)) (put O (6 + j) qs) wp (laU a j ro cap) (setL v j { v.lanes.getD j ln0 with roots := r }) := by
  obtain ⟨g1, hx, hp⟩ := h.turn (id := 6 + j) (by omega) hc hT hq
  obtain ⟨q', off', e1, e2, e3, e4, e5⟩ := (h.ln.keep (by omega) hc hx (fun x hm => by rw [hT x hm]; omega)).at_ (by omega)
  rw [hal] at e1
  simp only [Option.some.injEq, Addr.mk.injEq, and_true] at e1
  obtain ⟨rfl, rfl⟩ := e1
  have hw1 : put O (6 + j) qs wp = 1 := by rw [hx wp (by rw [h.o1]; omega)]; exact h.o1
  have hpw : O wp = 1 := h.o1
  have hh := hc.heap h.hp (fun hm => by have := hT wp hm; omega)
  have hl : (setL v j { v.lanes.getD j ln0 with roots := r }).lanes.length = v.lanes.length := List.length_set
  have hq0 : put O (6 + j) qs q = 5 := e2
  refine ⟨set_g g1 (by show put O (6 + j) qs q ≠ 0; omega), ?_, hw1, ?_, ?_, ?_, ?_, fun i hi => ?_⟩
  · have := set_hp hh (p := ⟨q, off + j * 3, none⟩) (u := .slice ro r.length cap) (fun e => by subst e; omega)
    rw [this]
    simp [VA.arr, laU, setL]
  · exact set_keep (h.cs.keep (by omega) hc hx (fun x hm => by rw [hT x hm]; omega)) (by omega) (by show put O (6 + j) qs q ≠ 2; omega)
  · exact set_keep (h.gr.keep (by omega) hc hx (fun x hm => by rw [hT x hm]; omega)) (by omega) (by show put O (6 + j) qs q ≠ 3; omega)
  · exact set_keep (h.gl.keep (by omega) hc hx (fun x hm => by rw [hT x hm]; omega)) (by omega) (by show put O (6 + j) qs q ≠ 4; omega)
  · have := e5 (j * 3 + 0) (.slice ro r.length cap) (by omega)
    rw [lanes_set (a' := laU a j ro cap) (v' := setL v j { v.lanes.getD j ln0 with roots := r }) hl hj (by omega) (fun i hi => by unfold laneV; rw [lane_set_at _ _ _ hj, if_neg hi]; simp [laU, hi]) (by unfold laneV; rw [lane_set_at _ _ _ hj, if_pos rfl]; simp [laU])] at this
    rw [hl]
    simpa [laU] using this
  · rw [hl] at hi
    rw [lane_set_at _ _ _ hj]
    by_cases e : i = j
    · subst e
      rw [if_pos rfl]
      refine set_keep ⟨qs, ?_, hp⟩ (by omega) (by show put O (6 + i) qs q ≠ 6 + i; omega)
      simpa [laU] using hr
    · rw [if_neg e]
      have := set_keep ((h.rt i hi).keep (by omega) hc hx (fun x hm => by rw [hT x hm]; omega)) (by omega) (p := ⟨q, off + j * 3, none⟩) (u := .slice ro r.length cap) (by show put O (6 + j) qs q ≠ 6 + i; omega)
      simpa [laU, e] using this
/-- A lane is scanned, or has ended. -/
theorem WM.laneB (h : WM w0 w O wp a v) {j : Nat} (hj : j < v.lanes.length) {q off : Nat} (hal : a.al = some ⟨q, off, none⟩) {t : Nat} (ht : t = 1 ∨ t = 2) {l : Ln} (hl0 : l.roots = (v.lanes.getD j ln0).roots) (b : Bool) (hb : (t = 1 → l.sc = b ∧ l.en = (v.lanes.getD j ln0).en) ∧ (t = 2 → l.en = b ∧ l.sc = (v.lanes.getD j ln0).sc)) :
    WM w0 (w.setCell ⟨q, off + (j * 3 + t), none⟩ (.bool b)) O wp a (setL v j l) := by
  obtain ⟨q', off', e1, e2, e3, e4, e5⟩ := h.ln.at_ (by omega)
  rw [hal] at e1
  simp only [Option.some.injEq, Addr.mk.injEq, and_true] at e1
  obtain ⟨rfl, rfl⟩ := e1
  have hpw : O wp = 1 := h.o1
  have hl : (setL v j l).lanes.length = v.lanes.length := List.length_set
  refine ⟨set_g h.g (by show O q ≠ 0; omega), ?_, h.o1, set_keep h.cs (by omega) (by show O q ≠ 2; omega), set_keep h.gr (by omega) (by show O q ≠ 3; omega), set_keep h.gl (by omega) (by show O q ≠ 4; omega), ?_, fun i hi => ?_⟩
  · have := set_hp h.hp (p := ⟨q, off + (j * 3 + t), none⟩) (u := .bool b) (fun e => by subst e; omega)
    rw [this]
    simp [VA.arr, setL]
  · have := e5 (j * 3 + t) (.bool b) (by omega)
    rw [lanes_set (a' := a) (v' := setL v j l) hl hj (by omega) (fun i hi => by unfold laneV; rw [lane_set_at _ _ _ hj, if_neg hi]) (by
      unfold laneV; rw [lane_set_at _ _ _ hj, if_pos rfl, hl0]
      rcases ht with e | e
      · subst e; rw [(hb.1 rfl).1, (hb.1 rfl).2]; rfl
      · subst e; rw [(hb.2 rfl).1, (hb.2 rfl).2]; rfl)] at this
    rw [hl]; exact this
  · rw [hl] at hi
    have := set_keep (h.rt i hi) (by omega) (p := ⟨q, off + (j * 3 + t), none⟩) (u := .bool b) (by show O q ≠ 6 + i; omega)
    rw [lane_set_at _ _ _ hj]
    by_cases e : i = j
    · subst e; rw [if_pos rfl, hl0]; exact this
    · rw [if_neg e]; exact this
/-- A lane comes. -/
theorem WM.laneAdd (h : WM w0 w O wp a v) {l : Ln} {ao ro : Option Addr} {cap rc : Nat} {q qr : List Nat} {w2 : World} (hc0 : Ch [] w w1) (hrr : Row w1 24 1 (.slice ro l.roots.length rc) qr l.roots.length (ints .u64 l.roots)) (hqr : ∀ x ∈ qr, w.heap.size ≤ x ∧ x < w1.heap.size)
    (hr : Row w2 71 3 (.slice ao (v.lanes.length + 1) cap) q (v.lanes.length + 1) (lanesV a v ++ [.slice ro l.roots.length rc, .bool l.sc, .bool l.en])) (hc : Ch T w1 w2) (hT : ∀ x ∈ T, O x = 5) (hq : ∀ x ∈ q, O x = 5 ∨ (w1.heap.size ≤ x ∧ x < w2.heap.size)) :
    ∃ O' a', WM w0 (w2.setCell ⟨wp, 6, none⟩ (.slice ao (v.lanes.length + 1) cap)) O' wp a' (addL v l) := by
  obtain ⟨L, hL⟩ : ∃ L, L = v.lanes.length := ⟨_, rfl⟩
  rw [← hL] at hr ⊢
  obtain ⟨g1, hx1, hp1⟩ := h.turn (id := 6 + L) (T := []) (q := qr) (by omega) hc0 (by simp) (fun x hx => .inr (hqr x hx))
  have h1 := h.chs hc0
  have hx2 : Ext (put O (6 + L) qr) (put (put O (6 + L) qr) 5 q) := put_ext (w' := w1) g1 5 q (fun x hx => by
    rcases hq x hx with e | e
    · left; rw [hx1 x (by omega)]; exact e
    · exact .inr e.1)
  have g2 : G w0 w2 (put (put O (6 + L) qr) 5 q) := (g1.step hc (fun x hm => .inl (by rw [hx1 x (by rw [hT x hm]; omega), hT x hm]; omega))).put 5 q (fun x hm => by
    rcases hq x hm with e | e
    · left; rw [hx1 x (by omega)]; exact e
    · have := g1.ch.size; right; omega)
  have hx := hx1.trans hx2
  generalize hO' : put (put O (6 + L) qr) 5 q = O' at *
  have hw1 : O' wp = 1 := by rw [hx wp (by rw [h.o1]; omega)]; exact h.o1
  have hpw : O wp = 1 := h.o1
  have hT' : ∀ x ∈ T, O x = 5 := hT
  have hh := hc.heap (hc0.heap h.hp (by simp)) (fun hm => by have := hT wp hm; omega)
  have K : ∀ (id : Nat) (e : TypeId) (sz : Nat) (bo : Option Addr) (n cp : Nat) (xs : List Value), OR w O id e sz bo n cp xs → id ≠ 0 → id ≠ 1 → id ≠ 5 → OR (w2.setCell ⟨wp, 6, none⟩ (.slice ao (L + 1) cap)) O' id e sz bo n cp xs := fun id e sz bo n cp xs h3 e0 e1 e5 =>
    set_keep ((h3.keep e0 hc0 (Ext.refl O) (by simp)).keep e0 hc hx (fun x hm => by rw [hT x hm]; exact Ne.symm e5)) e0 (by show O' wp ≠ id; rw [hw1]; exact Ne.symm e1)
  have hlen : (addL v l).lanes.length = L + 1 := by show (v.lanes ++ [l]).length = _; simp [hL]
  have hat : ∀ i, i < L → (addL v l).lanes.getD i ln0 = v.lanes.getD i ln0 := fun i hi => by
    show (v.lanes ++ [l]).getD i ln0 = _
    rw [List.getD_eq_getElem?_getD, List.getElem?_append_left (by omega), ← List.getD_eq_getElem?_getD]
  have hatL : (addL v l).lanes.getD L ln0 = l := by
    show (v.lanes ++ [l]).getD L ln0 = _
    rw [hL, List.getD_eq_getElem?_getD, List.getElem?_append_right (by omega)]; simp
  refine ⟨O', { a with al := ao, cl := cap, la := fun i => if i = L then ro else a.la i, lc := fun i => if i = L then rc else a.lc i }, set_g g2 (by show O' wp ≠ 0; omega), ?_, hw1, K _ _ _ _ _ _ _ h.cs (by omega) (by omega) (by omega), K _ _ _ _ _ _ _ h.gr (by omega) (by omega) (by omega), K _ _ _ _ _ _ _ h.gl (by omega) (by omega) (by omega), ?_, fun i hi => ?_⟩
  · refine (heap_set hh _).trans ?_
    rw [show (addL v l).lanes.length = v.lanes.length + 1 by rw [hlen, hL]] at *
    simp only [VA.arr, addL, List.length_append, List.length_singleton, hL]
    rfl
  · refine set_keep ⟨q, ?_, fun x hm => by rw [← hO']; exact put_at _ 5 q x hm⟩ (by omega) (by show O' wp ≠ 5; omega)
    rw [hlen]
    have e : lanesV { a with al := ao, cl := cap, la := fun i => if i = L then ro else a.la i, lc := fun i => if i = L then rc else a.lc i } (addL v l) = lanesV a v ++ [.slice ro l.roots.length rc, .bool l.sc, .bool l.en] := by
      unfold lanesV
      rw [hlen, ← hL, List.range_succ, List.flatMap_append]
      congr 1
      · have fc : ∀ (f g : Nat → List Value) (l : List Nat), (∀ i ∈ l, f i = g i) → l.flatMap f = l.flatMap g := by
          intro f g l
          induction l with
          | nil => intro _; rfl
          | cons x l ih => intro hh2; rw [List.flatMap_cons, List.flatMap_cons, hh2 x (by simp), ih (fun i hi => hh2 i (by simp [hi]))]
        refine fc _ _ _ (fun i hi => ?_)
        have hi' := List.mem_range.1 hi
        unfold laneV
        rw [hat i hi']
        simp [show i ≠ L by omega]
      · simp only [List.flatMap_cons, List.flatMap_nil, List.append_nil]
        unfold laneV
        rw [hatL]
        simp
    rw [e]; exact hr
  · rw [hlen] at hi
    by_cases e : i = L
    · subst e
      rw [hatL]
      have h3 : OR w1 (put O (6 + i) qr) (6 + i) 24 1 ro l.roots.length rc (ints .u64 l.roots) := ⟨qr, hrr, hp1⟩
      have h4 := h3.keep (by omega) hc hx2 (fun x hm => by rw [hx1 x (by rw [hT x hm]; omega), hT x hm]; omega)
      have h5 := set_keep (p := ⟨wp, 6, none⟩) (u := .slice ao (i + 1) cap) h4 (by omega) (by show O' wp ≠ 6 + i; omega)
      simpa using h5
    · rw [hat i (by omega)]
      have h5 := K _ _ _ _ _ _ _ (h.rt i (by omega)) (by omega) (by omega) (by omega)
      simpa [e] using h5
end
end Go.Proofs.YtlhhcocdhkbdnaaDoor.Kp

set_option linter.unusedVariables false
set_option linter.unusedSimpArgs false
set_option maxRecDepth 100000
namespace Go.Proofs.YtlhhcocdhkbdnaaDoor.Kp
open Go.RowKit Go.Proofs.YtlhhcocdhkbdnaaDoor.Wd Go.Proofs.YtlhhcocdhkbdnaaDoor.Hp Go.Proofs.YtlhhcocdhkbdnaaDoor.Gp Go.Proofs.YtlhhcocdhkbdnaaDoor.Sm Go.Proofs.YtlhhcocdhkbdnaaDoor.Gr Go.Proofs.YtlhhcocdhkbdnaaDoor.Bp Go.Proofs.YtlhhcocdhkbdnaaDoor.Own
/-- The rows of a view of one's own: who owns which block. -/
structure OM (w0 w : World) (O : Nat → Nat) (a : VA) (v : Vw) : Prop where
  g : G w0 w O
  cs : OR w O 2 58 4 a.ac v.cells.length a.cc (flat v.cells)
  gr : OR w O 3 3 1 a.ag v.grey.length a.cg (ints .i64 v.grey)
  gl : OR w O 4 24 1 a.agl v.globals.length a.cgl (ints .u64 v.globals)
  ln : OR w O 5 71 3 a.al v.lanes.length a.cl (lanesV a v)
  rt : ∀ j, j < v.lanes.length → OR w O (6 + j) 24 1 (a.la j) (v.lanes.getD j ln0).roots.length (a.lc j) (ints .u64 (v.lanes.getD j ln0).roots)
  one : ∀ x, O x ≠ 1
section
variable {w0 w w1 : World} {O : Nat → Nat} {a : VA} {v : Vw} {T : List Nat}
theorem OM.keep (h : OM w0 w O a v) (hc : Ch T w w1) (hT : ∀ x ∈ T, O x = 0 ∧ w0.heap.size ≤ x) : OM w0 w1 O a v := by
  have hn : ∀ id, id ≠ 0 → ∀ x ∈ T, O x ≠ id := fun id h0 x hx => by rw [(hT x hx).1]; exact Ne.symm h0
  exact ⟨⟨h.g.ch.trans hc (fun x hx => .inr (hT x hx).2), fun x hx => ⟨(h.g.ow x hx).1, Nat.lt_of_lt_of_le (h.g.ow x hx).2 hc.size⟩⟩, h.cs.keep (by omega) hc (Ext.refl O) (hn _ (by omega)), h.gr.keep (by omega) hc (Ext.refl O) (hn _ (by omega)), h.gl.keep (by omega) hc (Ext.refl O) (hn _ (by omega)), h.ln.keep (by omega) hc (Ext.refl O) (hn _ (by omega)), fun j hj => (h.rt j hj).keep (by omega) hc (Ext.refl O) (hn _ (by omega)), h.one⟩
theorem OM.fresh (h : OM w0 w O a v) {x : Nat} (hx : w.heap.size ≤ x) : O x = 0 := by
  rcases Nat.eq_zero_or_pos (O x) with e | e
  · exact e
  · have := h.g.ow x (by omega); omega
/-- In its box. -/
theorem OM.wm (h : OM w0 w O a v) {wp : Nat} (hp : w.heap[wp]? = some (.cells (a.arr v) 83 (0, 0))) (hO : O wp = 0) (hw : w0.heap.size ≤ wp) : WM w0 w (put O 1 [wp]) wp a v := by
  have hx : Ext O (put O 1 [wp]) := fun x hx => by
    unfold put
    rw [if_neg]
    intro hm
    simp at hm
    subst hm
    exact hx hO
  have k : ∀ {id : Nat} {e : TypeId} {sz : Nat} {bo : Option Addr} {n cp : Nat} {xs : List Value}, OR w O id e sz bo n cp xs → id ≠ 0 → OR w (put O 1 [wp]) id e sz bo n cp xs := fun h3 e0 => h3.keep e0 (Ch.refl [] w) hx (by simp)
  exact ⟨h.g.put 1 [wp] (fun x hm => by simp at hm; subst hm; exact .inr ⟨hw, lt_of hp⟩), hp, put_at O 1 [wp] wp (by simp), k h.cs (by omega), k h.gr (by omega), k h.gl (by omega), k h.ln (by omega), fun j hj => k (h.rt j hj) (by omega)⟩
/-- The beginning: cells, grey ones, globals. -/
theorem OM.start {s0 s1 s2 s3 : Nat} {qc qg qn : List Nat} (hch : Ch [] w0 w) (h0 : w0.heap.size ≤ s0) (h1 : s0 ≤ s1) (h2 : s1 ≤ s2) (h3 : s2 ≤ s3) (h4 : s3 ≤ w.heap.size)
    (hc : Row w 58 4 (.slice a.ac v.cells.length a.cc) qc v.cells.length (flat v.cells)) (bc : ∀ x ∈ qc, s0 ≤ x ∧ x < s1)
    (hg : Row w 3 1 (.slice a.ag v.grey.length a.cg) qg v.grey.length (ints .i64 v.grey)) (bg : ∀ x ∈ qg, s1 ≤ x ∧ x < s2)
    (hn : Row w 24 1 (.slice a.agl v.globals.length a.cgl) qn v.globals.length (ints .u64 v.globals)) (bn : ∀ x ∈ qn, s2 ≤ x ∧ x < s3)
    (hl : v.lanes = []) (ha : a.al = none) (hcl : a.cl = 0) : ∃ O, OM w0 w O a v ∧ ∀ x, x < s0 → O x = 0 := by
  let O := put (put (put (fun _ => 0) 2 qc) 3 qg) 4 qn
  have k2 : ∀ x ∈ qc, O x = 2 := fun x hx => by
    have n1 : x ∉ qn := fun hm => by have := bc x hx; have := bn x hm; omega
    have n2 : x ∉ qg := fun hm => by have := bc x hx; have := bg x hm; omega
    show (if x ∈ qn then 4 else if x ∈ qg then 3 else if x ∈ qc then 2 else 0) = 2
    rw [if_neg n1, if_neg n2, if_pos hx]
  have k3 : ∀ x ∈ qg, O x = 3 := fun x hx => by
    have n1 : x ∉ qn := fun hm => by have := bg x hx; have := bn x hm; omega
    show (if x ∈ qn then 4 else if x ∈ qg then 3 else if x ∈ qc then 2 else 0) = 3
    rw [if_neg n1, if_pos hx]
  have k4 : ∀ x ∈ qn, O x = 4 := fun x hx => by
    show (if x ∈ qn then 4 else if x ∈ qg then 3 else if x ∈ qc then 2 else 0) = 4
    rw [if_pos hx]
  have kO : ∀ x, O x ≠ 0 → s0 ≤ x ∧ x < s3 := fun x hx => by
    by_cases n1 : x ∈ qn
    · have := bn x n1; omega
    · by_cases n2 : x ∈ qg
      · have := bg x n2; omega
      · by_cases n3 : x ∈ qc
        · have := bc x n3; omega
        · exact absurd (show (if x ∈ qn then 4 else if x ∈ qg then 3 else if x ∈ qc then 2 else 0) = 0 by rw [if_neg n1, if_neg n2, if_neg n3]) hx
  refine ⟨O, ⟨⟨hch, fun x hx => by have := kO x hx; omega⟩, ⟨qc, hc, k2⟩, ⟨qg, hg, k3⟩, ⟨qn, hn, k4⟩, ?_, ?_, fun x hx => ?_⟩, fun x hx => ?_⟩
  · rw [hl, ha, hcl]
    refine ⟨[], ?_, by simp⟩
    have : lanesV a v = [] := by unfold lanesV; rw [hl]; rfl
    rw [this]
    exact Row.nil _ _ _ _
  · intro j hj; rw [hl] at hj; simp at hj
  · have h5 := kO x (by rw [hx]; omega)
    by_cases n1 : x ∈ qn
    · rw [k4 x n1] at hx; omega
    · by_cases n2 : x ∈ qg
      · rw [k3 x n2] at hx; omega
      · by_cases n3 : x ∈ qc
        · rw [k2 x n3] at hx; omega
        · have : O x = 0 := show (if x ∈ qn then 4 else if x ∈ qg then 3 else if x ∈ qc then 2 else 0) = 0 by rw [if_neg n1, if_neg n2, if_neg n3]
          omega
  · rcases Nat.eq_zero_or_pos (O x) with e | e
    · exact e
    · have := kO x (by omega); omega
/-- One lane more. -/
theorem OM.laneAdd (h : OM w0 w O a v) {l : Ln} {ao ro : Option Addr} {cap rc : Nat} {q qr T0 : List Nat} {w2 : World} (hc0 : Ch T0 w w1) (hT0 : ∀ x ∈ T0, O x = 0 ∧ w0.heap.size ≤ x) (hrr : Row w1 24 1 (.slice ro l.roots.length rc) qr l.roots.length (ints .u64 l.roots)) (hqr : ∀ x ∈ qr, w.heap.size ≤ x ∧ x < w1.heap.size)
    (hr : Row w2 71 3 (.slice ao (v.lanes.length + 1) cap) q (v.lanes.length + 1) (lanesV a v ++ [.slice ro l.roots.length rc, .bool l.sc, .bool l.en])) (hc : Ch T w1 w2) (hT : ∀ x ∈ T, O x = 5) (hq : ∀ x ∈ q, O x = 5 ∨ (w1.heap.size ≤ x ∧ x < w2.heap.size)) :
    ∃ O' a', OM w0 w2 O' a' (addL v l) ∧ a'.arr (addL v l) = (a.arr v).set! 6 (.slice ao (v.lanes.length + 1) cap) ∧ ∀ x, x < w.heap.size → O x = 0 → O' x = 0 := by
  obtain ⟨L, hL⟩ : ∃ L, L = v.lanes.length := ⟨_, rfl⟩
  rw [← hL] at hr ⊢
  have h1 := h.keep hc0 hT0
  have hs0 := hc0.size
  have hs1 := hc.size
  have hw0 := h.g.ch.size
  have hx1 : Ext O (put O (6 + L) qr) := put_ext (w' := w1) h.g (6 + L) qr (fun x hx => .inr (hqr x hx).1)
  have hp1 := put_at O (6 + L) qr
  have g1 : G w0 w1 (put O (6 + L) qr) := h1.g.put (6 + L) qr (fun x hx => by have := hqr x hx; right; omega)
  have hx2 : Ext (put O (6 + L) qr) (put (put O (6 + L) qr) 5 q) := put_ext (w' := w1) g1 5 q (fun x hx => by
    rcases hq x hx with e | e
    · left; rw [hx1 x (by omega)]; exact e
    · exact .inr e.1)
  have g2 : G w0 w2 (put (put O (6 + L) qr) 5 q) := (g1.step hc (fun x hm => .inl (by rw [hx1 x (by rw [hT x hm]; omega), hT x hm]; omega))).put 5 q (fun x hm => by
    rcases hq x hm with e | e
    · left; rw [hx1 x (by omega)]; exact e
    · have := g1.ch.size; right; omega)
  have hx := hx1.trans hx2
  have hun : ∀ x, x < w.heap.size → O x = 0 → put (put O (6 + L) qr) 5 q x = 0 := fun x hx h0 => by
    have n1 : x ∉ q := fun hm => by
      rcases hq x hm with e | e
      · omega
      · omega
    have n2 : x ∉ qr := fun hm => by have := hqr x hm; omega
    unfold put
    rw [if_neg n1, if_neg n2]
    exact h0
  have hone : ∀ x, put (put O (6 + L) qr) 5 q x ≠ 1 := fun x => by
    unfold put
    split
    · omega
    · split
      · omega
      · exact h.one x
  generalize hO' : put (put O (6 + L) qr) 5 q = O' at *
  have K : ∀ (id : Nat) (e : TypeId) (sz : Nat) (bo : Option Addr) (n cp : Nat) (xs : List Value), OR w1 O id e sz bo n cp xs → id ≠ 0 → id ≠ 5 → OR w2 O' id e sz bo n cp xs := fun id e sz bo n cp xs h3 e0 e5 =>
    h3.keep e0 hc hx (fun x hm => by rw [hT x hm]; exact Ne.symm e5)
  have hlen : (addL v l).lanes.length = L + 1 := by show (v.lanes ++ [l]).length = _; simp [hL]
  have hat : ∀ i, i < L → (addL v l).lanes.getD i ln0 = v.lanes.getD i ln0 := fun i hi => by
    show (v.lanes ++ [l]).getD i ln0 = _
    rw [List.getD_eq_getElem?_getD, List.getElem?_append_left (by omega), ← List.getD_eq_getElem?_getD]
  have hatL : (addL v l).lanes.getD L ln0 = l := by
    show (v.lanes ++ [l]).getD L ln0 = _
    rw [hL, List.getD_eq_getElem?_getD, List.getElem?_append_right (by omega)]; simp
  refine ⟨O', { a with al := ao, cl := cap, la := fun i => if i = L then ro else a.la i, lc := fun i => if i = L then rc else a.lc i }, ⟨g2, K _ _ _ _ _ _ _ h1.cs (by omega) (by omega), K _ _ _ _ _ _ _ h1.gr (by omega) (by omega), K _ _ _ _ _ _ _ h1.gl (by omega) (by omega), ?_, fun i hi => ?_, hone⟩, ?_, hun⟩
  · refine ⟨q, ?_, fun x hm => by rw [← hO']; exact put_at _ 5 q x hm⟩
    rw [hlen]
    have e : lanesV { a with al := ao, cl := cap, la := fun i => if i = L then ro else a.la i, lc := fun i => if i = L then rc else a.lc i } (addL v l) = lanesV a v ++ [.slice ro l.roots.length rc, .bool l.sc, .bool l.en] := by
      unfold lanesV
      rw [hlen, ← hL, List.range_succ, List.flatMap_append]
      congr 1
      · have fc : ∀ (f g : Nat → List Value) (l : List Nat), (∀ i ∈ l, f i = g i) → l.flatMap f = l.flatMap g := by
          intro f g l
          induction l with
          | nil => intro _; rfl
          | cons x l ih => intro hh2; rw [List.flatMap_cons, List.flatMap_cons, hh2 x (by simp), ih (fun i hi => hh2 i (by simp [hi]))]
        refine fc _ _ _ (fun i hi => ?_)
        have hi' := List.mem_range.1 hi
        unfold laneV
        rw [hat i hi']
        simp [show i ≠ L by omega]
      · simp only [List.flatMap_cons, List.flatMap_nil, List.append_nil]
        unfold laneV
        rw [hatL]
        simp
    rw [e]; exact hr
  · rw [hlen] at hi
    by_cases e : i = L
    · subst e
      rw [hatL]
      have h3 : OR w1 (put O (6 + i) qr) (6 + i) 24 1 ro l.roots.length rc (ints .u64 l.roots) := ⟨qr, hrr, hp1⟩
      have h4 := h3.keep (by omega) hc hx2 (fun x hm => by rw [hx1 x (by rw [hT x hm]; omega), hT x hm]; omega)
      simpa using h4
    · rw [hat i (by omega)]
      have h5 := K _ _ _ _ _ _ _ (h1.rt i (by omega)) (by omega) (by omega)
      simpa [e] using h5
  · unfold VA.arr
    rw [hlen]
    rfl
end
end Go.Proofs.YtlhhcocdhkbdnaaDoor.Kp
