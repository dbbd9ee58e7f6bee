/-
  A BOOK of ints alone, whose memory is told by owners: 5 the book, 6, 7 its ints.
-/
import Derived.Test.YtefamhdkfdgdjaaDoorQJBookSt
import Derived.Test.YtefamhdkfdgdjaaDoorQOwnInts
set_option linter.unusedVariables false
set_option linter.unusedSimpArgs false
set_option maxRecDepth 100000
namespace Go.Proofs.YtefamhdkfdgdjaaDoor.Own
open Go.RowKit Go.Proofs.YtefamhdkfdgdjaaDoor.Hp

def Bk (w : World) (O : Nat → Nat) (bp ni : Nat) : Prop := ∃ ai ci, IsBook w bp (.slice ai ni ci) (.slice none 0 0) (.slice none 0 0) (.slice none 0 0) (.slice none 0 0) ∧ O bp = 5 ∧
  Kd w O 3 26 1 6 7 (.slice ai ni ci) ni
theorem Bk.keep {w w' : World} {O O' : Nat → Nat} {bp ni : Nat} {T : List Nat} (h : Bk w O bp ni) (hc : Ch T w w') (hx : Ext O O') (hT : ∀ x ∈ T, O x < 5) : Bk w' O' bp ni := by
  obtain ⟨ai, ci, h1, h2, h3⟩ := h
  refine ⟨ai, ci, hc.heap h1 (apart h2 (fun y hy => by have := hT y hy; omega)), by rw [hx bp (by omega)]; exact h2, h3.keep hc hx (by omega) (by omega) (fun x hm => by have := hT x hm; omega)⟩
theorem Bk.ch {w w' : World} {O : Nat → Nat} {bp ni : Nat} (h : Bk w O bp ni) (hc : Ch [] w w') : Bk w' O bp ni := h.keep hc (Ext.refl O) (by simp)
/-- A new book. -/
theorem Bk.new {w0 w : World} {O : Nat → Nat} (h : G w0 w O) : G w0 (w.alloc (.cells (bookArr (.slice none 0 0) (.slice none 0 0) (.slice none 0 0) (.slice none 0 0) (.slice none 0 0)) 60)) (put O 5 [w.heap.size]) ∧ Bk (w.alloc (.cells (bookArr (.slice none 0 0) (.slice none 0 0) (.slice none 0 0) (.slice none 0 0) (.slice none 0 0)) 60)) (put O 5 [w.heap.size]) w.heap.size 0 := by
  have hc : Ch [] w (w.alloc (.cells (bookArr (.slice none 0 0) (.slice none 0 0) (.slice none 0 0) (.slice none 0 0) (.slice none 0 0)) 60)) := (Ch.refl _ _).alloc _
  refine ⟨(h.step hc (by simp)).put 5 _ (fun x hx => ?_), none, 0, heap_new w _, put_at O 5 _ _ (by simp), Kd.nil _ _ _ _ _ _ _⟩
  simp only [List.mem_singleton] at hx
  subst hx
  exact .inr ⟨h.ch.size, by simp⟩
section
variable {w0 w : World} {O : Nat → Nat} {bp ni : Nat}
theorem Ints_bk (hg : G w0 w O) (h : Bk w O bp ni) {v : Value} {rs : List Nat} {m : Nat} {xs : List Value} (hr : Row w 3 1 v rs m xs) (hrs : ∀ y ∈ rs, O y = 0 ∧ w0.heap.size ≤ y ∧ y < w.heap.size) (hm : m ≤ 1000000) (hn : ni ≤ 1000000) :
    Calls Tryd.prog 27 #[.pointer (some ⟨bp, 0, none⟩), v] w fun e w' => e = .returned (.tuple #[]) ∧ ∃ O' T, G w0 w' O' ∧ Ext O O' ∧ Bk w' O' bp (ni + 1) ∧ Ch T w w' ∧ (∀ x ∈ T, O x = 5 ∨ O x = 6) ∧ (∀ y, y < w.heap.size → O y = 0 → (y ∈ rs → O' y = 0 ∨ O' y = 7) ∧ (y ∉ rs → O' y = 0)) := by
  obtain ⟨ai, ci, h1, h2, h3⟩ := h
  obtain ⟨lq, vs, k1, k2, k3, k4, k5, k6⟩ := h3.all
  obtain ⟨ao, cap, rfl, hroom, hbk⟩ := Row.sv hr
  have hbq : bp ∉ lq := fun hm => by have := k3 bp hm; omega
  refine (Ints_any w bp (.slice none 0 0) (.slice none 0 0) (.slice none 0 0) (.slice none 0 0) ai ao ni ci m cap lq _ h1 k2 hbq hn).mono ?_
  rintro e w' ⟨he, v', lq', g1, g2, g3, g4⟩
  have hsz := g3.size
  have hlq : ∀ y ∈ lq', O y = 6 ∨ w.heap.size ≤ y := fun y hy => (g4 y hy).imp (k3 y) (fun h => h.1)
  have hG1 : G w0 w' O := hg.step g3 (fun x hx => by
    rcases List.mem_cons.1 hx with rfl | hx
    · left; omega
    · left; rw [k3 x hx]; omega)
  have e1 : Ext O (put O 7 (SV.mk ao m cap).bk) := by
    intro x hx
    unfold put
    rw [if_neg (fun hm => hx (hrs x (hbk x hm)).1)]
  have hlq7 : ∀ y ∈ lq', put O 7 (SV.mk ao m cap).bk y = 6 ∨ w.heap.size ≤ y := fun y hy => (hlq y hy).imp (fun h => by rw [e1 y (by omega)]; exact h) id
  have hG2 : G w0 w' (put O 7 (SV.mk ao m cap).bk) := hG1.put 7 _ (fun x hx => by have := hrs x (hbk x hx); right; omega)
  have e2 : Ext (put O 7 (SV.mk ao m cap).bk) (put (put O 7 (SV.mk ao m cap).bk) 6 lq') := by
    intro x hx
    unfold put at hx ⊢
    by_cases hm : x ∈ lq'
    · rw [if_pos hm]
      by_cases hb : x ∈ (SV.mk ao m cap).bk
      · exfalso
        have := hrs x (hbk x hb)
        rcases hlq x hm with h | h <;> omega
      · rw [if_neg hb] at hx ⊢
        rcases hlq x hm with h | h
        · exact h.symm
        · have := hg.ow x hx; omega
    · rw [if_neg hm]
  have hG3 : G w0 w' (put (put O 7 (SV.mk ao m cap).bk) 6 lq') := hG2.put 6 _ (fun x hx => by
    rcases g4 x hx with h | h
    · left; rw [e1 x (by rw [k3 x h]; omega)]; exact k3 x h
    · right; have := hg.ch.size; omega)
  have e3 := e1.trans e2
  have hT5 : ∀ y ∈ bp :: lq, O y = 5 ∨ O y = 6 := fun y hy => by
    rcases List.mem_cons.1 hy with rfl | hy
    · exact .inl h2
    · exact .inr (k3 y hy)
  have hOb : ∀ y ∈ (SV.mk ao m cap).bk, put (put O 7 (SV.mk ao m cap).bk) 6 lq' y = 7 := fun y hy => by
    rw [e2 y (by rw [put_at O 7 _ y hy]; omega)]; exact put_at O 7 _ y hy
  obtain ⟨al, cl, rfl, _⟩ := g2.rd
  refine ⟨he, _, bp :: lq, hG3, e3, ⟨al, cl, g1, by rw [e3 bp (by omega)]; exact h2, ?_⟩, g3, hT5, fun y hy h0 => ?_⟩
  rotate_left
  · have hnl : y ∉ lq' := fun hm => by rcases hlq y hm with h | h <;> omega
    constructor
    · intro _
      unfold put
      rw [if_neg hnl]
      by_cases hb : y ∈ (SV.mk ao m cap).bk
      · rw [if_pos hb]; exact .inr rfl
      · rw [if_neg hb]; exact .inl h0
    · intro hn
      unfold put
      rw [if_neg hnl, if_neg (fun hb => hn (hbk y hb))]; exact h0
  refine Kd.add (x := ⟨ao, m, cap⟩) k1 g3 (fun y hy => by rw [e3 y (by rcases hT5 y hy with h | h <;> omega)]; rcases hT5 y hy with h | h <;> omega) k4 (fun x hx y hy => by rw [e3 y (by rw [k5 x hx y hy]; omega)]; exact k5 x hx y hy) k6 g2 (fun y hy => put_at _ 6 _ y hy) ⟨hroom.keep (fun y hy o ho => g3.heap ho (fun hm => by have := hrs y (hbk y hy); rcases hT5 y hm with h | h <;> omega)), hm⟩ hOb (fun z hz y hy hm => ?_)
  have h0 := (hrs y (hbk y hy)).1
  have h7 := k5 z hz y hm
  omega
theorem Own_bk (h : Bk w O bp ni) (hn : ni ≤ 1000000) :
    Calls Tryd.prog 10 #[.pointer (some ⟨bp, 0, none⟩)] w fun e w' => e = .returned (.bool true) ∧ ∃ T, Ch T w w' ∧ (∀ x ∈ T, O x = 7) := by
  obtain ⟨ai, ci, h1, h2, h3⟩ := h
  obtain ⟨VI, SI, hI, hSI⟩ := h3.lls (by omega)
  have n1 : bp ∉ SI := fun hm => by have := hSI bp hm; omega
  have hIc : ∀ w', Ch [] w w' → LLs w' 3 1 ai ni VI SI := fun w' hc => ⟨hI.cells.imp id fun ⟨b, off, a1, a2, a3⟩ => ⟨b, off, a1, a2, fun j hj => hc.cell (a3 j hj) (by simp)⟩, fun j hj => ⟨(hI.room j hj).1.keep (fun q hq o ho => hc.heap ho (by simp)), (hI.room j hj).2⟩, hI.dis, hI.inS⟩
  refine (Own_gen w bp ai none none none none ni 0 0 0 0 ci 0 0 0 0 h1 SI [] [] [] [] n1 (by simp) (by simp) (by simp) (by simp)
    (fun w' hc => ownInts_any w' ai ni ci VI SI hn (hIc w' hc))
    (fun w' _ => (ownWords_nil w').mono fun e w'' ⟨a, b⟩ => ⟨a, b ▸ Ch.refl _ _⟩)
    (fun w' _ => (ownCells_nil w').mono fun e w'' ⟨a, b⟩ => ⟨a, b ▸ Ch.refl _ _⟩)
    (fun w' _ => (ownWaiters_nil w').mono fun e w'' ⟨a, b⟩ => ⟨a, b ▸ Ch.refl _ _⟩)
    (fun w' _ => ownBools_nil w')).mono ?_
  rintro e w' ⟨he, hc⟩
  exact ⟨he, _, hc, fun x hx => by
    simp at hx
    exact hSI x hx⟩
end
end Go.Proofs.YtefamhdkfdgdjaaDoor.Own
