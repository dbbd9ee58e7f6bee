/-
  BarrierDead's own view in memory (no walk).
-/
import Derived.Test.YtlhhcocdhkbdnaaDoorQKeepL
import Derived.Test.YtlhhcocdhkbdnaaDoorQKeepD1
set_option linter.unusedVariables false
set_option linter.unusedSimpArgs false
set_option maxRecDepth 100000
namespace Go.Proofs.YtlhhcocdhkbdnaaDoor.Kp
open Go.RowKit Go.Proofs.YtlhhcocdhkbdnaaDoor.Wd Go.Proofs.YtlhhcocdhkbdnaaDoor.Hp Go.Proofs.YtlhhcocdhkbdnaaDoor.Gp Go.Proofs.YtlhhcocdhkbdnaaDoor.Sm Go.Proofs.YtlhhcocdhkbdnaaDoor.Gr Go.Proofs.YtlhhcocdhkbdnaaDoor.Bp Go.Proofs.YtlhhcocdhkbdnaaDoor.Own
section
variable {w0 w w1 w' : World} {O O' : Nat → Nat} {wp : Nat} {a : VA} {v V : Vw} {T B q : List Nat}
theorem WM.phS (h : WM w0 w O wp a v) (x : Int) : WM w0 (w.setCell ⟨wp, 1, none⟩ (.int .u8 x)) O wp a { v with ph := x } := by
  have hq : O wp ≠ 0 := by rw [h.o1]; omega
  refine ⟨set_g h.g hq, (h.own 1 _).trans rfl, h.o1, set_keep h.cs (by omega) (by show O wp ≠ 2; rw [h.o1]; omega), set_keep h.gr (by omega) (by show O wp ≠ 3; rw [h.o1]; omega), set_keep h.gl (by omega) (by show O wp ≠ 4; rw [h.o1]; omega), set_keep h.ln (by omega) (by show O wp ≠ 5; rw [h.o1]; omega), fun j hj => set_keep (h.rt j hj) (by omega) (by show O wp ≠ 6 + j; rw [h.o1]; omega)⟩
/-- Somebody writes what is nobody's. -/
theorem WM.keepT (h : WM w0 w O wp a v) (hc : Ch T w w1) (hT : ∀ x ∈ T, O x = 0 ∧ w0.heap.size ≤ x) : WM w0 w1 O wp a v := by
  have hn : ∀ id, id ≠ 0 → ∀ x ∈ T, O x ≠ id := fun id h0 x hx => by rw [(hT x hx).1]; exact Ne.symm h0
  exact ⟨⟨h.g.ch.trans hc (fun x hx => .inr (hT x hx).2), fun x hx => ⟨(h.g.ow x hx).1, Nat.lt_of_lt_of_le (h.g.ow x hx).2 hc.size⟩⟩, hc.heap h.hp (fun hm => by have h1 := (hT wp hm).1; have h2 := h.o1; omega), h.o1, h.cs.keep (by omega) hc (Ext.refl O) (hn _ (by omega)), h.gr.keep (by omega) hc (Ext.refl O) (hn _ (by omega)), h.gl.keep (by omega) hc (Ext.refl O) (hn _ (by omega)), h.ln.keep (by omega) hc (Ext.refl O) (hn _ (by omega)), fun j hj => (h.rt j hj).keep (by omega) hc (Ext.refl O) (hn _ (by omega))⟩
theorem row_same {e : TypeId} {sz n : Nat} {qs : List Nat} {u : Value} {xs : List Value} (h : Row w e sz u qs n xs) (hb : ∀ q ∈ qs, w'.heap[q]? = w.heap[q]?) : Row w' e sz u qs n xs := by
  obtain ⟨hl, ao', cap', e1, a, b, c, d⟩ := h
  exact ⟨hl, ao', cap', e1, a, b, c, d.imp id (fun ⟨q, off, arr, hq, ha, hh, hr⟩ => ⟨q, off, arr, hq, ha, (hb q hq).trans hh, hr⟩)⟩
/-- A view by the rule in its box; the blocks of B are not the view's. -/
structure KD (w0 w : World) (wp : Nat) (V : Vw) (B : List Nat) : Prop where
  m : ∃ O a, WM w0 w O wp a V ∧ ∀ b ∈ B, O b = 0 ∧ w0.heap.size ≤ b ∧ b < w.heap.size
  g : GV V
theorem KD.base (h : KD w0 w wp V B) : Ch [] w0 w := by
  obtain ⟨⟨O, a, k, _⟩, g⟩ := h
  exact k.g.ch
theorem KD.add (h : KD w0 w wp V B) (hc : Ch T w w1) (hT : ∀ x ∈ T, x ∈ B) (hq : ∀ x ∈ q, x ∈ B ∨ (w.heap.size ≤ x ∧ x < w1.heap.size)) : KD w0 w1 wp V (q ++ B) := by
  have hs := h.base.size
  obtain ⟨⟨O, a, k, hB⟩, g⟩ := h
  refine ⟨⟨O, a, k.keepT hc (fun x hx => ⟨(hB x (hT x hx)).1, (hB x (hT x hx)).2.1⟩), fun b hb => ?_⟩, g⟩
  have hz := hc.size
  have old : b ∈ B → O b = 0 ∧ w0.heap.size ≤ b ∧ b < w1.heap.size := fun e => by have := hB b e; exact ⟨this.1, this.2.1, by omega⟩
  rcases List.mem_append.1 hb with e | e
  · rcases hq b e with e | e
    · exact old e
    · exact ⟨k.fresh e.1, by omega, e.2⟩
  · exact old e
theorem KD.ch (h : KD w0 w wp V B) (hc : Ch T w w1) (hT : ∀ x ∈ T, x ∈ B) : KD w0 w1 wp V B := by
  have := h.add (q := []) hc hT (by simp)
  simpa using this
theorem KD.sub {B' : List Nat} (h : KD w0 w wp V B) (hs : ∀ x ∈ B', x ∈ B) : KD w0 w wp V B' := by
  obtain ⟨⟨O, a, k, hB⟩, g⟩ := h
  exact ⟨⟨O, a, k, fun b hb => hB b (hs b hb)⟩, g⟩
theorem KD.step (h : KD w0 w wp V B) (hb : Bnd w0) (s : S5) (hs : SI s) :
    Calls Tryd.prog 31 #[.pointer (some ⟨wp, 0, none⟩), .agg #[.int .i64 s.kd, .int .i64 s.who, .int .i64 s.a, .int .i64 s.b, .int .i64 s.c]] w fun e w' => e = .returned (.bool true) ∧ KD w0 w' wp (stepS V s) B ∧ ∀ b ∈ B, w'.heap[b]? = w.heap[b]? := by
  obtain ⟨⟨O, a, k, hB⟩, g⟩ := h
  refine (step_any k g hb s hs).mono ?_
  rintro e w' ⟨h1, O', a', h2, h3⟩
  exact ⟨h1, ⟨⟨O', a', h2, fun b hb => ⟨(h3.un b (hB b hb).2.2 (hB b hb).1).2, (hB b hb).2.1, Nat.lt_of_lt_of_le (hB b hb).2.2 h3.sz⟩⟩, step_gv g s⟩, fun b hb => (h3.un b (hB b hb).2.2 (hB b hb).1).1⟩
end
/-! The lists half way. -/
def upTo {α : Type} (f : α → α) (l : List α) (k : Nat) : List α := (l.take k).map f ++ l.drop k
theorem upTo_zero {α : Type} (f : α → α) (l : List α) : upTo f l 0 = l := by simp [upTo]
theorem upTo_all {α : Type} (f : α → α) (l : List α) : upTo f l l.length = l.map f := by simp [upTo]
theorem upTo_len {α : Type} (f : α → α) (l : List α) (k : Nat) : (upTo f l k).length = l.length := by simp [upTo]; omega
theorem upTo_at {α : Type} (f : α → α) (l : List α) (k : Nat) (d : α) (h : k < l.length) : (upTo f l k).getD k d = l.getD k d := by
  unfold upTo
  rw [List.getD_eq_getElem?_getD, List.getElem?_append_right (by simp; omega)]
  simp [List.getD_eq_getElem?_getD, show min k l.length = k by omega]
theorem upTo_next {α : Type} (f : α → α) (l : List α) (k : Nat) (d : α) (h : k < l.length) : upTo f l (k + 1) = (upTo f l k).set k (f (l.getD k d)) := by
  unfold upTo
  rw [List.set_append, if_neg (by simp; omega)]
  have hk : k - ((l.take k).map f).length = 0 := by simp; omega
  have e : l.getD k d = l[k] := by simp [List.getD_eq_getElem?_getD, h]
  rw [hk, List.drop_eq_getElem_cons h, List.set_cons_zero, List.take_succ_eq_append_getElem h, List.map_append, e, List.append_assoc]
  rfl
def begC (v : Vw) (k : Nat) : Vw := { v with cells := upTo zeroC v.cells k }
def begU (v : Vw) (k : Nat) : Vw := { v with lanes := upTo unsc v.lanes k }
theorem begC_next (v : Vw) (k : Nat) (h : k < v.cells.length) : ({ begC v k with cells := (begC v k).cells.set k (zeroC (cel (begC v k) k)) } : Vw) = begC v (k + 1) := by
  have e : cel (begC v k) k = v.cells.getD k z := upTo_at _ _ _ _ h
  rw [e]
  unfold begC
  rw [upTo_next zeroC v.cells k z h]
theorem begU_next (v : Vw) (k : Nat) (h : k < v.lanes.length) : setL (begU v k) k (unsc ((begU v k).lanes.getD k ln0)) = begU v (k + 1) := by
  have e : (begU v k).lanes.getD k ln0 = v.lanes.getD k ln0 := upTo_at _ _ _ _ h
  rw [e]
  unfold begU setL
  rw [upTo_next unsc v.lanes k ln0 h]
/-- What was free and is not. -/
def newF (F : List Bool) (P : Nat → Bool) (j : Nat) : List Bool := (List.range F.length).map (fun c => if c < j then F.getD c false || P c else F.getD c false)
theorem newF_len (F : List Bool) (P : Nat → Bool) (j : Nat) : (newF F P j).length = F.length := by simp [newF]
theorem newF_at (F : List Bool) (P : Nat → Bool) (j c : Nat) (h : c < F.length) : (newF F P j).getD c false = if c < j then F.getD c false || P c else F.getD c false := by
  simp [newF, List.getD_eq_getElem?_getD, h]
theorem newF_atT (F : List Bool) (P : Nat → Bool) (j c : Nat) (h : c < F.length) : (newF F P j).getD c true = if c < j then F.getD c false || P c else F.getD c false := by
  simp [newF, List.getD_eq_getElem?_getD, h]
theorem newF_zero (F : List Bool) (P : Nat → Bool) : newF F P 0 = F := by
  apply List.ext_getElem?
  intro i
  by_cases h : i < F.length
  · simp [newF, h, List.getD_eq_getElem?_getD]
  · simp [newF, h]
theorem newF_next (F : List Bool) (P : Nat → Bool) (j : Nat) (h : j < F.length) : newF F P (j + 1) = (newF F P j).set j (F.getD j false || P j) := by
  apply List.ext_getElem?
  intro i
  by_cases e : i = j
  · subst e
    rw [List.getElem?_set_self (by rw [newF_len]; exact h)]
    simp [newF, h]
  · rw [List.getElem?_set_ne (Ne.symm e)]
    by_cases h2 : i < F.length
    · simp only [newF, List.getElem?_map]
      rw [List.getElem?_range h2]
      simp only [Option.map_some]
      by_cases h3 : i < j
      · rw [if_pos h3, if_pos (by omega)]
      · rw [if_neg h3, if_neg (by omega)]
    · simp [newF, h2]
def freeB (V : Vw) (j : Nat) : List Bool := (List.range j).map (fun c => (cel V c).k == 0)
theorem freeB_next (V : Vw) (j : Nat) : bv (freeB V (j + 1)) = bv (freeB V j) ++ [.bool ((cel V j).k == 0)] := by simp [freeB, bv, List.range_succ]
theorem freeB_at (V : Vw) (j c : Nat) (h : c < j) : (bv (freeB V j))[c]? = some (.bool ((cel V c).k == 0)) := by simp [freeB, bv, h]
/-- Live or filled since. -/
def LF (lst F : List Bool) (c : Nat) : Prop := lst.getD c false = true ∨ F.getD c false = true
theorem us_k (V : Vw) (c : Nat) : us V c ↔ (cel V c).k ≠ 0 := by unfold us nofree; simp
/-- Behind a step: what was free and is not is fresh. -/
theorem lf_step {V V' : Vw} {lst F : List Bool} {n : Nat} (hn : V.cells.length = n) (hF : F.length = n) (jn : Jn V V' (LF lst F)) (hb : ∀ c, F.getD c false = true → us V c ∧ (cel V c).c = 2) :
    J V' (LF lst (newF F (fun c => ((cel V c).k == 0) && ((cel V' c).k != 0)) n)) ∧ ∀ c, (newF F (fun c => ((cel V c).k == 0) && ((cel V' c).k != 0)) n).getD c false = true → us V' c ∧ (cel V' c).c = 2 := by
  have hat : ∀ c, (newF F (fun c => ((cel V c).k == 0) && ((cel V' c).k != 0)) n).getD c false = true ↔ F.getD c false = true ∨ (¬ us V c ∧ us V' c) := by
    intro c
    by_cases h : c < n
    · rw [newF_at _ _ _ _ (by omega), if_pos h]
      simp only [Bool.or_eq_true, Bool.and_eq_true, beq_iff_eq, bne_iff_ne, us_k]
      constructor
      · rintro (e | ⟨e1, e2⟩)
        · exact .inl e
        · exact .inr ⟨fun k => k e1, e2⟩
      · rintro (e | ⟨e1, e2⟩)
        · exact .inl e
        · exact .inr ⟨by omega, e2⟩
    · constructor
      · intro e
        rw [List.getD_eq_getElem?_getD, List.getElem?_eq_none (by rw [newF_len]; omega)] at e
        cases e
      · rintro (e | ⟨e1, e2⟩)
        · rw [List.getD_eq_getElem?_getD, List.getElem?_eq_none (by omega)] at e
          cases e
        · have := nofree_lt e2
          have hl := jn.len
          omega
  refine ⟨jn.j.congr (fun c => ?_), fun c hc => ?_⟩
  · unfold Lg LF
    rw [hat]
    constructor
    · rintro ((e | e) | e)
      · exact .inl e
      · exact .inr (.inl e)
      · exact .inr (.inr e)
    · rintro (e | e | e)
      · exact .inl (.inl e)
      · exact .inl (.inr e)
      · exact .inr e
  · rcases (hat c).1 hc with e | ⟨e1, e2⟩
    · obtain ⟨h1, h2⟩ := hb c e
      exact ⟨jn.keep c h1, jn.bk c h1 h2⟩
    · exact ⟨e2, jn.new c e1 e2⟩
theorem beg_vr {v : Vw} (h : VR v) : VR (begV v) := by
  refine ⟨fun x hx => ?_, ⟨by show (0:Int) ≤ 1; omega, by show (1:Int) < 256; omega⟩, h.sw, ⟨by show (-9223372036854775808 : Int) ≤ 0; omega, by show (0 : Int) ≤ 9223372036854775807; omega⟩, by simp [begV], h.globals, fun l hl x hx => ?_, by simpa [begV] using h.n1, by simp [begV], h.n3, by simpa [begV] using h.n4, ?_⟩
  · obtain ⟨y, hy, rfl⟩ := List.mem_map.1 hx
    have := h.cells y hy
    exact ⟨this.1, this.2.1, by simp [zeroC], by simp [zeroC], this.2.2.2.2.1, this.2.2.2.2.2⟩
  · obtain ⟨y, hy, rfl⟩ := List.mem_map.1 hl
    exact h.roots y hy x hx
  · have e : rootsN (v.lanes.map unsc) = rootsN v.lanes := by
      unfold rootsN
      rw [List.map_map]
      rfl
    show rootsN (v.lanes.map unsc) ≤ 100000
    rw [e]; exact h.n5
end Go.Proofs.YtlhhcocdhkbdnaaDoor.Kp
