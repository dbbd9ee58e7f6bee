/-
  A BOOK of ints, words, cells and bools, whose memory is told by owners: 5 the book, 6, 7 its ints, 8, 9 its words, 10, 11 its cells, 12, 13 its bools. (Written by wip/gen_book4.py.)
-/
import Derived.Test.YtggijcebobjghaaDoorQJBookSt
import Derived.Test.YtggijcebobjghaaDoorQOwnInts
import Derived.Test.YtggijcebobjghaaDoorQOwnWords
import Derived.Test.YtggijcebobjghaaDoorQOwnCells
import Derived.Test.YtggijcebobjghaaDoorQOwnBools
set_option linter.unusedVariables false
set_option linter.unusedSimpArgs false
set_option maxRecDepth 100000
namespace Go.Proofs.YtggijcebobjghaaDoor.Own
open Go.RowKit Go.Proofs.YtggijcebobjghaaDoor.Hp
def Bk4 (w : World) (O : Nat → Nat) (bp ni nw nc nb : Nat) : Prop := ∃ ai ci aw cw ac cc ab cb, IsBook w bp (.slice ai ni ci) (.slice aw nw cw) (.slice ac nc cc) (.slice none 0 0) (.slice ab nb cb) ∧ O bp = 5 ∧
  Kd w O 3 59 1 6 7 (.slice ai ni ci) ni ∧ Kd w O 53 24 1 8 9 (.slice aw nw cw) nw ∧ Kd w O 55 23 4 10 11 (.slice ac nc cc) nc ∧ Kd w O 4 68 1 12 13 (.slice ab nb cb) nb
theorem Bk4.keep {w w' : World} {O O' : Nat → Nat} {bp ni nw nc nb : Nat} {T : List Nat} (h : Bk4 w O bp ni nw nc nb) (hc : Ch T w w') (hx : Ext O O') (hT : ∀ x ∈ T, O x < 5) : Bk4 w' O' bp ni nw nc nb := by
  obtain ⟨ai, ci, aw, cw, ac, cc, ab, cb, h1, h2, h3, h4, h5, h6⟩ := h
  exact ⟨ai, ci, aw, cw, ac, cc, ab, cb, hc.heap h1 (apart h2 (fun y hy => by have := hT y hy; omega)), by rw [hx bp (by omega)]; exact h2, h3.keep hc hx (by omega) (by omega) (fun x hm => by have := hT x hm; omega), h4.keep hc hx (by omega) (by omega) (fun x hm => by have := hT x hm; omega), h5.keep hc hx (by omega) (by omega) (fun x hm => by have := hT x hm; omega), h6.keep hc hx (by omega) (by omega) (fun x hm => by have := hT x hm; omega)⟩
theorem Bk4.ch {w w' : World} {O : Nat → Nat} {bp ni nw nc nb : Nat} (h : Bk4 w O bp ni nw nc nb) (hc : Ch [] w w') : Bk4 w' O bp ni nw nc nb := h.keep hc (Ext.refl O) (by simp)
/-- A new book. -/
theorem Bk4.new {w0 w : World} {O : Nat → Nat} (h : G w0 w O) : G w0 (w.alloc (.cells (bookArr (.slice none 0 0) (.slice none 0 0) (.slice none 0 0) (.slice none 0 0) (.slice none 0 0)) 46)) (put O 5 [w.heap.size]) ∧ Bk4 (w.alloc (.cells (bookArr (.slice none 0 0) (.slice none 0 0) (.slice none 0 0) (.slice none 0 0) (.slice none 0 0)) 46)) (put O 5 [w.heap.size]) w.heap.size 0 0 0 0 := by
  have hc : Ch [] w (w.alloc (.cells (bookArr (.slice none 0 0) (.slice none 0 0) (.slice none 0 0) (.slice none 0 0) (.slice none 0 0)) 46)) := (Ch.refl _ _).alloc _
  refine ⟨(h.step hc (by simp)).put 5 _ (fun x hx => ?_), none, 0, none, 0, none, 0, none, 0, heap_new w _, put_at O 5 _ _ (by simp), Kd.nil _ _ _ _ _ _ _, Kd.nil _ _ _ _ _ _ _, Kd.nil _ _ _ _ _ _ _, Kd.nil _ _ _ _ _ _ _⟩
  simp only [List.mem_singleton] at hx
  subst hx
  exact .inr ⟨h.ch.size, by simp⟩
section
variable {w0 w : World} {O : Nat → Nat} {bp ni nw nc nb : Nat}
theorem Ints_bk4 (hg : G w0 w O) (h : Bk4 w O bp ni nw nc nb) {v : Value} {rs : List Nat} {m : Nat} {xs : List Value} (hr : Row w 3 1 v rs m xs) (hrs : ∀ y ∈ rs, O y = 0 ∧ w0.heap.size ≤ y ∧ y < w.heap.size) (hm : m ≤ 1000000) (hn : ni ≤ 1000) :
    Calls Tryd.prog 19 #[.pointer (some ⟨bp, 0, none⟩), v] w fun e w' => e = .returned (.tuple #[]) ∧ ∃ O' T, G w0 w' O' ∧ Ext O O' ∧ Bk4 w' O' bp (ni + 1) nw nc nb ∧ Ch T w w' ∧ (∀ x ∈ T, O x = 5 ∨ O x = 6) ∧ (∀ y, y < w.heap.size → O y = 0 → (y ∈ rs → O' y = 0 ∨ O' y = 7) ∧ (y ∉ rs → O' y = 0)) := by
  obtain ⟨ai, ci, aw, cw, ac, cc, ab, cb, h1, h2, h3, h4, h5, h6⟩ := h
  obtain ⟨lq, vs, k1, k2, k3, k4, k5, k6⟩ := h3.all
  obtain ⟨ao, cap, rfl, hroom, hbk⟩ := Row.sv hr
  have hbq : bp ∉ lq := fun hm => by have := k3 bp hm; omega
  refine (Ints_any w bp (.slice aw nw cw) (.slice ac nc cc) (.slice none 0 0) (.slice ab nb cb) ai ao ni ci m cap lq _ h1 k2 hbq (by omega)).mono ?_
  rintro e w' ⟨he, v', lq', g1, g2, g3, g4⟩
  have hsz := g3.size
  have hlq : ∀ y ∈ lq', O y = 6 ∨ w.heap.size ≤ y := fun y hy => (g4 y hy).imp (k3 y) (fun h => h.1)
  have hG1 : G w0 w' O := hg.step g3 (fun x hx => by
    rcases List.mem_cons.1 hx with rfl | hx
    · left; omega
    · left; rw [k3 x hx]; omega)
  have e1 : Ext O (put O 7 (SV.mk ao m cap).bk) := by
    intro x hx
    unfold put
    rw [if_neg (fun hm => hx (hrs x (hbk x hm)).1)]
  have hG2 : G w0 w' (put O 7 (SV.mk ao m cap).bk) := hG1.put 7 _ (fun x hx => by have := hrs x (hbk x hx); right; omega)
  have e2 : Ext (put O 7 (SV.mk ao m cap).bk) (put (put O 7 (SV.mk ao m cap).bk) 6 lq') := by
    intro x hx
    unfold put at hx ⊢
    by_cases hm : x ∈ lq'
    · rw [if_pos hm]
      by_cases hb : x ∈ (SV.mk ao m cap).bk
      · exfalso
        have := hrs x (hbk x hb)
        rcases hlq x hm with h | h <;> omega
      · rw [if_neg hb] at hx ⊢
        rcases hlq x hm with h | h
        · exact h.symm
        · have := hg.ow x hx; omega
    · rw [if_neg hm]
  have hG3 : G w0 w' (put (put O 7 (SV.mk ao m cap).bk) 6 lq') := hG2.put 6 _ (fun x hx => by
    rcases g4 x hx with h | h
    · left; rw [e1 x (by rw [k3 x h]; omega)]; exact k3 x h
    · right; have := hg.ch.size; omega)
  have e3 := e1.trans e2
  have hT5 : ∀ y ∈ bp :: lq, O y = 5 ∨ O y = 6 := fun y hy => by
    rcases List.mem_cons.1 hy with rfl | hy
    · exact .inl h2
    · exact .inr (k3 y hy)
  have hOb : ∀ y ∈ (SV.mk ao m cap).bk, put (put O 7 (SV.mk ao m cap).bk) 6 lq' y = 7 := fun y hy => by
    rw [e2 y (by rw [put_at O 7 _ y hy]; omega)]; exact put_at O 7 _ y hy
  obtain ⟨al, cl, rfl, _⟩ := g2.rd
  refine ⟨he, _, bp :: lq, hG3, e3, ⟨al, cl, aw, cw, ac, cc, ab, cb, g1, by rw [e3 bp (by omega)]; exact h2, ?_, h4.keep g3 e3 (by omega) (by omega) (fun y hy => by rcases hT5 y hy with h | h <;> omega), h5.keep g3 e3 (by omega) (by omega) (fun y hy => by rcases hT5 y hy with h | h <;> omega), h6.keep g3 e3 (by omega) (by omega) (fun y hy => by rcases hT5 y hy with h | h <;> omega)⟩, g3, hT5, fun y hy h0 => ?_⟩
  rotate_left
  · have hnl : y ∉ lq' := fun hm => by rcases hlq y hm with h | h <;> omega
    constructor
    · intro _
      unfold put
      rw [if_neg hnl]
      by_cases hb : y ∈ (SV.mk ao m cap).bk
      · rw [if_pos hb]; exact .inr rfl
      · rw [if_neg hb]; exact .inl h0
    · intro hn
      unfold put
      rw [if_neg hnl, if_neg (fun hb => hn (hbk y hb))]; exact h0
  refine Kd.add (x := ⟨ao, m, cap⟩) k1 g3 (fun y hy => by rw [e3 y (by rcases hT5 y hy with h | h <;> omega)]; rcases hT5 y hy with h | h <;> omega) k4 (fun x hx y hy => by rw [e3 y (by rw [k5 x hx y hy]; omega)]; exact k5 x hx y hy) k6 g2 (fun y hy => put_at _ 6 _ y hy) ⟨hroom.keep (fun y hy o ho => g3.heap ho (fun hm => by have := hrs y (hbk y hy); rcases hT5 y hm with h | h <;> omega)), hm⟩ hOb (fun z hz y hy hm => ?_)
  have h0 := (hrs y (hbk y hy)).1
  have h7 := k5 z hz y hm
  omega
theorem Words_bk4 (hg : G w0 w O) (h : Bk4 w O bp ni nw nc nb) {v : Value} {rs : List Nat} {m : Nat} {xs : List Value} (hr : Row w 53 1 v rs m xs) (hrs : ∀ y ∈ rs, O y = 0 ∧ w0.heap.size ≤ y ∧ y < w.heap.size) (hm : m ≤ 1000000) (hn : nw ≤ 1000) :
    Calls Tryd.prog 40 #[.pointer (some ⟨bp, 0, none⟩), v] w fun e w' => e = .returned (.tuple #[]) ∧ ∃ O' T, G w0 w' O' ∧ Ext O O' ∧ Bk4 w' O' bp ni (nw + 1) nc nb ∧ Ch T w w' ∧ (∀ x ∈ T, O x = 5 ∨ O x = 8) ∧ (∀ y, y < w.heap.size → O y = 0 → (y ∈ rs → O' y = 0 ∨ O' y = 9) ∧ (y ∉ rs → O' y = 0)) := by
  obtain ⟨ai, ci, aw, cw, ac, cc, ab, cb, h1, h2, h3, h4, h5, h6⟩ := h
  obtain ⟨lq, vs, k1, k2, k3, k4, k5, k6⟩ := h4.all
  obtain ⟨ao, cap, rfl, hroom, hbk⟩ := Row.sv hr
  have hbq : bp ∉ lq := fun hm => by have := k3 bp hm; omega
  refine (Words_any w bp (.slice ai ni ci) (.slice ac nc cc) (.slice none 0 0) (.slice ab nb cb) aw ao nw cw m cap lq _ h1 k2 hbq (by omega)).mono ?_
  rintro e w' ⟨he, v', lq', g1, g2, g3, g4⟩
  have hsz := g3.size
  have hlq : ∀ y ∈ lq', O y = 8 ∨ w.heap.size ≤ y := fun y hy => (g4 y hy).imp (k3 y) (fun h => h.1)
  have hG1 : G w0 w' O := hg.step g3 (fun x hx => by
    rcases List.mem_cons.1 hx with rfl | hx
    · left; omega
    · left; rw [k3 x hx]; omega)
  have e1 : Ext O (put O 9 (SV.mk ao m cap).bk) := by
    intro x hx
    unfold put
    rw [if_neg (fun hm => hx (hrs x (hbk x hm)).1)]
  have hG2 : G w0 w' (put O 9 (SV.mk ao m cap).bk) := hG1.put 9 _ (fun x hx => by have := hrs x (hbk x hx); right; omega)
  have e2 : Ext (put O 9 (SV.mk ao m cap).bk) (put (put O 9 (SV.mk ao m cap).bk) 8 lq') := by
    intro x hx
    unfold put at hx ⊢
    by_cases hm : x ∈ lq'
    · rw [if_pos hm]
      by_cases hb : x ∈ (SV.mk ao m cap).bk
      · exfalso
        have := hrs x (hbk x hb)
        rcases hlq x hm with h | h <;> omega
      · rw [if_neg hb] at hx ⊢
        rcases hlq x hm with h | h
        · exact h.symm
        · have := hg.ow x hx; omega
    · rw [if_neg hm]
  have hG3 : G w0 w' (put (put O 9 (SV.mk ao m cap).bk) 8 lq') := hG2.put 8 _ (fun x hx => by
    rcases g4 x hx with h | h
    · left; rw [e1 x (by rw [k3 x h]; omega)]; exact k3 x h
    · right; have := hg.ch.size; omega)
  have e3 := e1.trans e2
  have hT5 : ∀ y ∈ bp :: lq, O y = 5 ∨ O y = 8 := fun y hy => by
    rcases List.mem_cons.1 hy with rfl | hy
    · exact .inl h2
    · exact .inr (k3 y hy)
  have hOb : ∀ y ∈ (SV.mk ao m cap).bk, put (put O 9 (SV.mk ao m cap).bk) 8 lq' y = 9 := fun y hy => by
    rw [e2 y (by rw [put_at O 9 _ y hy]; omega)]; exact put_at O 9 _ y hy
  obtain ⟨al, cl, rfl, _⟩ := g2.rd
  refine ⟨he, _, bp :: lq, hG3, e3, ⟨ai, ci, al, cl, ac, cc, ab, cb, g1, by rw [e3 bp (by omega)]; exact h2, h3.keep g3 e3 (by omega) (by omega) (fun y hy => by rcases hT5 y hy with h | h <;> omega), ?_, h5.keep g3 e3 (by omega) (by omega) (fun y hy => by rcases hT5 y hy with h | h <;> omega), h6.keep g3 e3 (by omega) (by omega) (fun y hy => by rcases hT5 y hy with h | h <;> omega)⟩, g3, hT5, fun y hy h0 => ?_⟩
  rotate_left
  · have hnl : y ∉ lq' := fun hm => by rcases hlq y hm with h | h <;> omega
    constructor
    · intro _
      unfold put
      rw [if_neg hnl]
      by_cases hb : y ∈ (SV.mk ao m cap).bk
      · rw [if_pos hb]; exact .inr rfl
      · rw [if_neg hb]; exact .inl h0
    · intro hn
      unfold put
      rw [if_neg hnl, if_neg (fun hb => hn (hbk y hb))]; exact h0
  refine Kd.add (x := ⟨ao, m, cap⟩) k1 g3 (fun y hy => by rw [e3 y (by rcases hT5 y hy with h | h <;> omega)]; rcases hT5 y hy with h | h <;> omega) k4 (fun x hx y hy => by rw [e3 y (by rw [k5 x hx y hy]; omega)]; exact k5 x hx y hy) k6 g2 (fun y hy => put_at _ 8 _ y hy) ⟨hroom.keep (fun y hy o ho => g3.heap ho (fun hm => by have := hrs y (hbk y hy); rcases hT5 y hm with h | h <;> omega)), hm⟩ hOb (fun z hz y hy hm => ?_)
  have h0 := (hrs y (hbk y hy)).1
  have h7 := k5 z hz y hm
  omega
theorem Cells_bk4 (hg : G w0 w O) (h : Bk4 w O bp ni nw nc nb) {v : Value} {rs : List Nat} {m : Nat} {xs : List Value} (hr : Row w 55 4 v rs m xs) (hrs : ∀ y ∈ rs, O y = 0 ∧ w0.heap.size ≤ y ∧ y < w.heap.size) (hm : m ≤ 1000000) (hn : nc ≤ 1000) :
    Calls Tryd.prog 39 #[.pointer (some ⟨bp, 0, none⟩), v] w fun e w' => e = .returned (.tuple #[]) ∧ ∃ O' T, G w0 w' O' ∧ Ext O O' ∧ Bk4 w' O' bp ni nw (nc + 1) nb ∧ Ch T w w' ∧ (∀ x ∈ T, O x = 5 ∨ O x = 10) ∧ (∀ y, y < w.heap.size → O y = 0 → (y ∈ rs → O' y = 0 ∨ O' y = 11) ∧ (y ∉ rs → O' y = 0)) := by
  obtain ⟨ai, ci, aw, cw, ac, cc, ab, cb, h1, h2, h3, h4, h5, h6⟩ := h
  obtain ⟨lq, vs, k1, k2, k3, k4, k5, k6⟩ := h5.all
  obtain ⟨ao, cap, rfl, hroom, hbk⟩ := Row.sv hr
  have hbq : bp ∉ lq := fun hm => by have := k3 bp hm; omega
  refine (Cells_any w bp (.slice ai ni ci) (.slice aw nw cw) (.slice none 0 0) (.slice ab nb cb) ac ao nc cc m cap lq _ h1 k2 hbq (by omega)).mono ?_
  rintro e w' ⟨he, v', lq', g1, g2, g3, g4⟩
  have hsz := g3.size
  have hlq : ∀ y ∈ lq', O y = 10 ∨ w.heap.size ≤ y := fun y hy => (g4 y hy).imp (k3 y) (fun h => h.1)
  have hG1 : G w0 w' O := hg.step g3 (fun x hx => by
    rcases List.mem_cons.1 hx with rfl | hx
    · left; omega
    · left; rw [k3 x hx]; omega)
  have e1 : Ext O (put O 11 (SV.mk ao m cap).bk) := by
    intro x hx
    unfold put
    rw [if_neg (fun hm => hx (hrs x (hbk x hm)).1)]
  have hG2 : G w0 w' (put O 11 (SV.mk ao m cap).bk) := hG1.put 11 _ (fun x hx => by have := hrs x (hbk x hx); right; omega)
  have e2 : Ext (put O 11 (SV.mk ao m cap).bk) (put (put O 11 (SV.mk ao m cap).bk) 10 lq') := by
    intro x hx
    unfold put at hx ⊢
    by_cases hm : x ∈ lq'
    · rw [if_pos hm]
      by_cases hb : x ∈ (SV.mk ao m cap).bk
      · exfalso
        have := hrs x (hbk x hb)
        rcases hlq x hm with h | h <;> omega
      · rw [if_neg hb] at hx ⊢
        rcases hlq x hm with h | h
        · exact h.symm
        · have := hg.ow x hx; omega
    · rw [if_neg hm]
  have hG3 : G w0 w' (put (put O 11 (SV.mk ao m cap).bk) 10 lq') := hG2.put 10 _ (fun x hx => by
    rcases g4 x hx with h | h
    · left; rw [e1 x (by rw [k3 x h]; omega)]; exact k3 x h
    · right; have := hg.ch.size; omega)
  have e3 := e1.trans e2
  have hT5 : ∀ y ∈ bp :: lq, O y = 5 ∨ O y = 10 := fun y hy => by
    rcases List.mem_cons.1 hy with rfl | hy
    · exact .inl h2
    · exact .inr (k3 y hy)
  have hOb : ∀ y ∈ (SV.mk ao m cap).bk, put (put O 11 (SV.mk ao m cap).bk) 10 lq' y = 11 := fun y hy => by
    rw [e2 y (by rw [put_at O 11 _ y hy]; omega)]; exact put_at O 11 _ y hy
  obtain ⟨al, cl, rfl, _⟩ := g2.rd
  refine ⟨he, _, bp :: lq, hG3, e3, ⟨ai, ci, aw, cw, al, cl, ab, cb, g1, by rw [e3 bp (by omega)]; exact h2, h3.keep g3 e3 (by omega) (by omega) (fun y hy => by rcases hT5 y hy with h | h <;> omega), h4.keep g3 e3 (by omega) (by omega) (fun y hy => by rcases hT5 y hy with h | h <;> omega), ?_, h6.keep g3 e3 (by omega) (by omega) (fun y hy => by rcases hT5 y hy with h | h <;> omega)⟩, g3, hT5, fun y hy h0 => ?_⟩
  rotate_left
  · have hnl : y ∉ lq' := fun hm => by rcases hlq y hm with h | h <;> omega
    constructor
    · intro _
      unfold put
      rw [if_neg hnl]
      by_cases hb : y ∈ (SV.mk ao m cap).bk
      · rw [if_pos hb]; exact .inr rfl
      · rw [if_neg hb]; exact .inl h0
    · intro hn
      unfold put
      rw [if_neg hnl, if_neg (fun hb => hn (hbk y hb))]; exact h0
  refine Kd.add (x := ⟨ao, m, cap⟩) k1 g3 (fun y hy => by rw [e3 y (by rcases hT5 y hy with h | h <;> omega)]; rcases hT5 y hy with h | h <;> omega) k4 (fun x hx y hy => by rw [e3 y (by rw [k5 x hx y hy]; omega)]; exact k5 x hx y hy) k6 g2 (fun y hy => put_at _ 10 _ y hy) ⟨hroom.keep (fun y hy o ho => g3.heap ho (fun hm => by have := hrs y (hbk y hy); rcases hT5 y hm with h | h <;> omega)), hm⟩ hOb (fun z hz y hy hm => ?_)
  have h0 := (hrs y (hbk y hy)).1
  have h7 := k5 z hz y hm
  omega
theorem Bools_bk4 (hg : G w0 w O) (h : Bk4 w O bp ni nw nc nb) {v : Value} {rs : List Nat} {m : Nat} {xs : List Value} (hr : Row w 4 1 v rs m xs) (hrs : ∀ y ∈ rs, O y = 0 ∧ w0.heap.size ≤ y ∧ y < w.heap.size) (hm : m ≤ 1000000) (hn : nb ≤ 1000) :
    Calls Tryd.prog 38 #[.pointer (some ⟨bp, 0, none⟩), v] w fun e w' => e = .returned (.tuple #[]) ∧ ∃ O' T, G w0 w' O' ∧ Ext O O' ∧ Bk4 w' O' bp ni nw nc (nb + 1) ∧ Ch T w w' ∧ (∀ x ∈ T, O x = 5 ∨ O x = 12) ∧ (∀ y, y < w.heap.size → O y = 0 → (y ∈ rs → O' y = 0 ∨ O' y = 13) ∧ (y ∉ rs → O' y = 0)) := by
  obtain ⟨ai, ci, aw, cw, ac, cc, ab, cb, h1, h2, h3, h4, h5, h6⟩ := h
  obtain ⟨lq, vs, k1, k2, k3, k4, k5, k6⟩ := h6.all
  obtain ⟨ao, cap, rfl, hroom, hbk⟩ := Row.sv hr
  have hbq : bp ∉ lq := fun hm => by have := k3 bp hm; omega
  refine (Bools_any w bp (.slice ai ni ci) (.slice aw nw cw) (.slice ac nc cc) (.slice none 0 0) ab ao nb cb m cap lq _ h1 k2 hbq (by omega)).mono ?_
  rintro e w' ⟨he, v', lq', g1, g2, g3, g4⟩
  have hsz := g3.size
  have hlq : ∀ y ∈ lq', O y = 12 ∨ w.heap.size ≤ y := fun y hy => (g4 y hy).imp (k3 y) (fun h => h.1)
  have hG1 : G w0 w' O := hg.step g3 (fun x hx => by
    rcases List.mem_cons.1 hx with rfl | hx
    · left; omega
    · left; rw [k3 x hx]; omega)
  have e1 : Ext O (put O 13 (SV.mk ao m cap).bk) := by
    intro x hx
    unfold put
    rw [if_neg (fun hm => hx (hrs x (hbk x hm)).1)]
  have hG2 : G w0 w' (put O 13 (SV.mk ao m cap).bk) := hG1.put 13 _ (fun x hx => by have := hrs x (hbk x hx); right; omega)
  have e2 : Ext (put O 13 (SV.mk ao m cap).bk) (put (put O 13 (SV.mk ao m cap).bk) 12 lq') := by
    intro x hx
    unfold put at hx ⊢
    by_cases hm : x ∈ lq'
    · rw [if_pos hm]
      by_cases hb : x ∈ (SV.mk ao m cap).bk
      · exfalso
        have := hrs x (hbk x hb)
        rcases hlq x hm with h | h <;> omega
      · rw [if_neg hb] at hx ⊢
        rcases hlq x hm with h | h
        · exact h.symm
        · have := hg.ow x hx; omega
    · rw [if_neg hm]
  have hG3 : G w0 w' (put (put O 13 (SV.mk ao m cap).bk) 12 lq') := hG2.put 12 _ (fun x hx => by
    rcases g4 x hx with h | h
    · left; rw [e1 x (by rw [k3 x h]; omega)]; exact k3 x h
    · right; have := hg.ch.size; omega)
  have e3 := e1.trans e2
  have hT5 : ∀ y ∈ bp :: lq, O y = 5 ∨ O y = 12 := fun y hy => by
    rcases List.mem_cons.1 hy with rfl | hy
    · exact .inl h2
    · exact .inr (k3 y hy)
  have hOb : ∀ y ∈ (SV.mk ao m cap).bk, put (put O 13 (SV.mk ao m cap).bk) 12 lq' y = 13 := fun y hy => by
    rw [e2 y (by rw [put_at O 13 _ y hy]; omega)]; exact put_at O 13 _ y hy
  obtain ⟨al, cl, rfl, _⟩ := g2.rd
  refine ⟨he, _, bp :: lq, hG3, e3, ⟨ai, ci, aw, cw, ac, cc, al, cl, g1, by rw [e3 bp (by omega)]; exact h2, h3.keep g3 e3 (by omega) (by omega) (fun y hy => by rcases hT5 y hy with h | h <;> omega), h4.keep g3 e3 (by omega) (by omega) (fun y hy => by rcases hT5 y hy with h | h <;> omega), h5.keep g3 e3 (by omega) (by omega) (fun y hy => by rcases hT5 y hy with h | h <;> omega), ?_⟩, g3, hT5, fun y hy h0 => ?_⟩
  rotate_left
  · have hnl : y ∉ lq' := fun hm => by rcases hlq y hm with h | h <;> omega
    constructor
    · intro _
      unfold put
      rw [if_neg hnl]
      by_cases hb : y ∈ (SV.mk ao m cap).bk
      · rw [if_pos hb]; exact .inr rfl
      · rw [if_neg hb]; exact .inl h0
    · intro hn
      unfold put
      rw [if_neg hnl, if_neg (fun hb => hn (hbk y hb))]; exact h0
  refine Kd.add (x := ⟨ao, m, cap⟩) k1 g3 (fun y hy => by rw [e3 y (by rcases hT5 y hy with h | h <;> omega)]; rcases hT5 y hy with h | h <;> omega) k4 (fun x hx y hy => by rw [e3 y (by rw [k5 x hx y hy]; omega)]; exact k5 x hx y hy) k6 g2 (fun y hy => put_at _ 12 _ y hy) ⟨hroom.keep (fun y hy o ho => g3.heap ho (fun hm => by have := hrs y (hbk y hy); rcases hT5 y hm with h | h <;> omega)), hm⟩ hOb (fun z hz y hy hm => ?_)
  have h0 := (hrs y (hbk y hy)).1
  have h7 := k5 z hz y hm
  omega
theorem LLs.mv {w w' : World} {e : TypeId} {sz : Nat} {bo : Option Addr} {N : Nat} {V : Nat → SV} {S T : List Nat} (h : LLs w e sz bo N V S) (hc : Ch T w w') (h1 : ∀ x ∈ T, x ∉ S) (h2 : N = 0 ∨ ∀ b off, bo = some ⟨b, off, none⟩ → b ∉ T) : LLs w' e sz bo N V S :=
  ⟨by
    by_cases h0 : N = 0
    · exact .inl h0
    · obtain ⟨b, off, a1, a2, a3⟩ := h.cells.resolve_left h0
      exact .inr ⟨b, off, a1, a2, fun j hj => hc.cell (a3 j hj) (h2.resolve_left h0 b off a1)⟩, fun j hj => ⟨(h.room j hj).1.keep (fun q hq o ho => hc.heap ho (fun hm => h1 q hm (h.inS j hj q hq))), (h.room j hj).2⟩, h.dis, h.inS⟩
theorem Kd.blk {w : World} {O : Nat → Nat} {e st : TypeId} {sz q d n : Nat} {ao : Option Addr} {cap : Nat} (h : Kd w O e st sz q d (.slice ao n cap) n) : n = 0 ∨ ∀ b off, ao = some ⟨b, off, none⟩ → O b = q := by
  by_cases h0 : n = 0
  · exact .inl h0
  · right
    intro b off hab
    obtain ⟨lq, vs, h1, h2, h3, h4, h5, h6⟩ := h.all
    obtain ⟨hl, ao', cap', hv, g1, g2, g3, g4⟩ := h2
    simp only [Value.slice.injEq, true_and] at hv
    obtain ⟨rfl, rfl⟩ := hv
    obtain ⟨b', off', arr, k1, k2, k3, k4, k5⟩ := g4.resolve_left (by omega)
    rw [hab] at k2
    simp only [Option.some.injEq, Addr.mk.injEq, and_true] at k2
    obtain ⟨rfl, rfl⟩ := k2
    exact h3 _ k1
theorem Own_bk4 (h : Bk4 w O bp ni nw nc nb) (hi : ni ≤ 1000) (hw : nw ≤ 1000) (hcc : nc ≤ 1000) (hb : nb ≤ 1000) :
    Calls Tryd.prog 16 #[.pointer (some ⟨bp, 0, none⟩)] w fun e w' => e = .returned (.bool true) ∧ ∃ T, Ch T w w' ∧ (∀ x ∈ T, 5 ≤ O x) := by
  obtain ⟨ai, ci, aw, cw, ac, cc, ab, cb, h1, h2, h3, h4, h5, h6⟩ := h
  obtain ⟨VI, SI, hI, hSI⟩ := h3.lls (by omega)
  obtain ⟨VW, SW, hW, hSW⟩ := h4.lls (by omega)
  obtain ⟨VC, SC, hC, hSC⟩ := h5.lls (by omega)
  obtain ⟨VB, SB, hB, hSB⟩ := h6.lls (by omega)
  have mI : ∀ x ∈ SI, O x = 7 := hSI
  have q4 := h4.blk
  have q5 := h5.blk
  have q6 := h6.blk
  refine (Own_gen w bp ai aw ac none ab ni nw nc 0 nb ci cw cc 0 cb h1 SI SW SC [] SB (fun hm => by have := hSI bp hm; omega) (fun hm => by have := hSW bp hm; omega) (fun hm => by have := hSC bp hm; omega) (by simp) (fun hm => by have := hSB bp hm; omega)
    (fun w' hc => ownInts_any w' ai ni ci VI SI (by omega) (hI.mv hc (by simp) (by simp)))
    (fun w' hc => ownWords_any w' aw nw cw VW SW (by omega) (hW.mv hc (fun x hx hm => by have := hSI x hx; have := hSW x hm; omega) (q4.imp id fun h b off e hm => by have := h b off e; have := hSI b hm; omega)))
    (fun w' hc => ownCells_any w' ac nc cc VC SC (by omega) (hC.mv hc (fun x hx hm => by have := hSC x hm; rcases List.mem_append.1 hx with h | h; (have := hSI x h; omega); (have := hSW x h; omega)) (q5.imp id fun h b off e hm => by have := h b off e; rcases List.mem_append.1 hm with g | g; (have := hSI b g; omega); (have := hSW b g; omega))))
    (fun w' _ => (ownWaiters_nil w').mono fun e w'' ⟨a, b⟩ => ⟨a, b ▸ Ch.refl _ _⟩)
    (fun w' hc => ownBools_any w' ab nb cb VB SB (by omega) (hB.mv hc (fun x hx hm => by
      have := hSB x hm
      simp only [List.mem_append, List.not_mem_nil, or_false] at hx
      rcases hx with (h | h) | h
      · have := hSI x h; omega
      · have := hSW x h; omega
      · have := hSC x h; omega) (q6.imp id fun h b off e hm => by
      have := h b off e
      simp only [List.mem_append, List.not_mem_nil, or_false] at hm
      rcases hm with (g | g) | g
      · have := hSI b g; omega
      · have := hSW b g; omega
      · have := hSC b g; omega)))).mono ?_
  rintro e w' ⟨he, hc⟩
  refine ⟨he, _, hc, fun x hx => ?_⟩
  simp only [List.mem_append, List.not_mem_nil, or_false] at hx
  rcases hx with ((h | h) | h) | h
  · have := hSI x h; omega
  · have := hSW x h; omega
  · have := hSC x h; omega
  · have := hSB x h; omega
end
end Go.Proofs.YtggijcebobjghaaDoor.Own
