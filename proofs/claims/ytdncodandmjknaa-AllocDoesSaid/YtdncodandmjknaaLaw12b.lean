/-
  THE LAW AllocDoes: an allocator and the document's, whose memory is told by owners; looks.
-/
import Derived.Test.YtdncodandmjknaaRef12d
import Derived.Test.YtdncodandmjknaaBook12
import Derived.Test.YtdncodandmjknaaLaw12
set_option linter.unusedVariables false
set_option linter.unusedSimpArgs false
set_option maxRecDepth 100000
namespace Go.Proofs.Ytdncodandmjknaa.D12
open Go.RowKit Go.Proofs.Ytdncodandmjknaa.Hp Go.Proofs.Ytdncodandmjknaa.Sm Go.Proofs.Ytdncodandmjknaa.Ap Go.Proofs.Ytdncodandmjknaa.Al Go.Proofs.Ytdncodandmjknaa.R12 Go.Proofs.Ytdncodandmjknaa.Own

def PA (w : World) (O : Nat → Nat) (id p c : Nat) (s : St) : Prop := ∃ qs, Al.Is w p c qs s ∧ ∀ x ∈ p :: c :: qs, O x = id
def PR (w : World) (O : Nat → Nat) (id p c : Nat) (s : St) : Prop := ∃ qs, Rs w p c qs s ∧ ∀ x ∈ p :: c :: qs, O x = id
section
variable {w0 w w' : World} {O O' : Nat → Nat} {id p c : Nat} {s : St} {T : List Nat}
theorem PA.keep (h : PA w O id p c s) (hc : Ch T w w') (hx : Ext O O') (hid : id ≠ 0) (hT : ∀ x ∈ T, O x ≠ id) : PA w' O' id p c s := by
  obtain ⟨qs, h1, h2⟩ := h
  exact ⟨qs, h1.ch hc (apart (h2 p (by simp)) hT) (apart (h2 c (by simp)) hT) (fun q hq => apart (h2 q (by simp [hq])) hT), fun x hm => by rw [hx x (by rw [h2 x hm]; exact hid)]; exact h2 x hm⟩
theorem PR.keep (h : PR w O id p c s) (hc : Ch T w w') (hx : Ext O O') (hid : id ≠ 0) (hT : ∀ x ∈ T, O x ≠ id) : PR w' O' id p c s := by
  obtain ⟨qs, h1, h2⟩ := h
  exact ⟨qs, h1.ch hc (apart (h2 p (by simp)) hT) (apart (h2 c (by simp)) hT) (fun q hq => apart (h2 q (by simp [hq])) hT), fun x hm => by rw [hx x (by rw [h2 x hm]; exact hid)]; exact h2 x hm⟩
/-- Who has blocks gets more. -/
theorem more {l : List Nat} (hg : G w0 w O) (hid : id ≠ 0) (hc : Ch T w w') (hT : ∀ x ∈ T, O x = id) (hl : ∀ x ∈ l, (O x = id ∨ w.heap.size ≤ x) ∧ x < w'.heap.size) : G w0 w' (put O id l) ∧ Ext O (put O id l) ∧ (∀ x ∈ l, put O id l x = id) ∧ ∀ y, y < w.heap.size → O y = 0 → put O id l y = 0 := by
  refine ⟨(hg.step hc (fun x hx => .inl (by rw [hT x hx]; exact hid))).put id l (fun x hx => ?_), put_ext (w' := w') hg id l (fun x hx => (hl x hx).1), put_at O id l, fun y hy h0 => ?_⟩
  · rcases (hl x hx).1 with h | h
    · exact .inl h
    · exact .inr ⟨Nat.le_trans hg.ch.size h, (hl x hx).2⟩
  · unfold put
    by_cases hm : y ∈ l
    · rw [if_pos hm]
      rcases (hl y hm).1 with h | h
      · rw [← h]; exact h0
      · omega
    · rw [if_neg hm]; exact h0
def Gone (w0 w : World) (O : Nat → Nat) (id : Nat) (w' : World) (O' : Nat → Nat) : Prop := G w0 w' O' ∧ Ext O O' ∧ (∃ T, Ch T w w' ∧ ∀ x ∈ T, O x = id) ∧ ∀ y, y < w.heap.size → O y = 0 → O' y = 0
theorem Ask_a (hg : G w0 w O) (hid : id ≠ 0) (h : PA w O id p c s) (t b : Int) (hb : -9223372036854775808 ≤ b ∧ b ≤ 9223372036854775807) :
    Calls Try.prog 19 #[.pointer (some ⟨p, 0, none⟩), .int .i64 t, .int .i64 b] w fun e w' => e = .returned (.tuple #[.int .i64 (askCell s t), .bool (askGot s t), .int .i64 (askErr s t)]) ∧ ∃ O', Gone w0 w O id w' O' ∧ PA w' O' id p c (Ap.ask s t b) := by
  obtain ⟨qs, h1, h2⟩ := h
  refine (Al.Ask_any w p c qs s t b h1 hb).mono fun e w' ⟨k1, qs', k2, k3, k4⟩ => ⟨k1, ?_⟩
  obtain ⟨g1, g2, g3, g4⟩ := more (l := qs') hg hid k3 h2 (fun x hx => ⟨(k4 x hx).imp (fun hm => h2 x (by simp [hm])) (fun hm => hm), (k2.qne x hx).2.2⟩)
  refine ⟨_, ⟨g1, g2, ⟨_, k3, h2⟩, g4⟩, qs', k2, fun x hx => ?_⟩
  rcases List.mem_cons.1 hx with rfl | hx
  · rw [g2 _ (by rw [h2 _ (by simp)]; exact hid)]; exact h2 _ (by simp)
  rcases List.mem_cons.1 hx with rfl | hx
  · rw [g2 _ (by rw [h2 _ (by simp)]; exact hid)]; exact h2 _ (by simp)
  · exact g3 x hx
theorem Ask_r (hg : G w0 w O) (hid : id ≠ 0) (h : PR w O id p c s) (inv : Inv s) (t b : Int) (hb : -9223372036854775808 ≤ b ∧ b ≤ 9223372036854775807) :
    Calls Try.prog 22 #[.pointer (some ⟨p, 0, none⟩), .int .i64 t, .int .i64 b] w fun e w' => e = .returned (.tuple #[.int .i64 (askCell s t), .bool (askGot s t), .int .i64 (askErr s t)]) ∧ ∃ O', Gone w0 w O id w' O' ∧ PR w' O' id p c (Ap.ask s t b) := by
  obtain ⟨qs, h1, h2⟩ := h
  refine (R12.Ask_any w p c qs s t b h1 inv hb).mono fun e w' ⟨k1, qs', k2, k3, k4⟩ => ⟨k1, ?_⟩
  obtain ⟨g1, g2, g3, g4⟩ := more (l := qs') hg hid k3 h2 (fun x hx => ⟨(k4 x hx).imp (fun hm => h2 x (by simp [hm])) (fun hm => hm), (k2.qne x hx).2.2⟩)
  refine ⟨_, ⟨g1, g2, ⟨_, k3, h2⟩, g4⟩, qs', k2, fun x hx => ?_⟩
  rcases List.mem_cons.1 hx with rfl | hx
  · rw [g2 _ (by rw [h2 _ (by simp)]; exact hid)]; exact h2 _ (by simp)
  rcases List.mem_cons.1 hx with rfl | hx
  · rw [g2 _ (by rw [h2 _ (by simp)]; exact hid)]; exact h2 _ (by simp)
  · exact g3 x hx
theorem Back_a (hg : G w0 w O) (hid : id ≠ 0) (h : PA w O id p c s) (i : Int) :
    Calls Try.prog 20 #[.pointer (some ⟨p, 0, none⟩), .int .i64 i] w fun e w' => e = .returned (.tuple #[.int .i64 (backN s i), .int .i64 (backErr s i)]) ∧ Gone w0 w O id w' O ∧ PA w' O id p c (Ap.back s i) := by
  obtain ⟨qs, h1, h2⟩ := h
  have hT : ∀ x ∈ [p, c], O x = id := fun x hx => h2 x (by simp at hx ⊢; rcases hx with h | h <;> simp [h])
  exact (Al.Back_any w p c qs s i h1).mono fun e w' ⟨k1, k2, k3⟩ => ⟨k1, ⟨hg.step k3 (fun x hx => .inl (by rw [hT x hx]; exact hid)), Ext.refl _, ⟨_, k3, hT⟩, fun _ _ h => h⟩, qs, k2, h2⟩
theorem Back_r (hg : G w0 w O) (hid : id ≠ 0) (h : PR w O id p c s) (inv : Inv s) (i : Int) :
    Calls Try.prog 23 #[.pointer (some ⟨p, 0, none⟩), .int .i64 i] w fun e w' => e = .returned (.tuple #[.int .i64 (backN s i), .int .i64 (backErr s i)]) ∧ Gone w0 w O id w' O ∧ PR w' O id p c (Ap.back s i) := by
  obtain ⟨qs, h1, h2⟩ := h
  have hT : ∀ x ∈ [p, c], O x = id := fun x hx => h2 x (by simp at hx ⊢; rcases hx with h | h <;> simp [h])
  exact (R12.Back_any w p c qs s i h1 inv).mono fun e w' ⟨k1, k2, k3⟩ => ⟨k1, ⟨hg.step k3 (fun x hx => .inl (by rw [hT x hx]; exact hid)), Ext.refl _, ⟨_, k3, hT⟩, fun _ _ h => h⟩, qs, k2, h2⟩
/-- A list that came out, nobody's yet. -/
def Out (w0 w : World) (O : Nat → Nat) (e : TypeId) (sz n : Nat) (v : Value) (rs : List Nat) (xs : List Value) : Prop := Row w e sz v rs n xs ∧ ∀ y ∈ rs, O y = 0 ∧ w0.heap.size ≤ y ∧ y < w.heap.size
theorem Finish_a (hg : G w0 w O) (hid : id ≠ 0) (h : PA w O id p c s) (cy fr : Int) :
    Calls Try.prog 24 #[.pointer (some ⟨p, 0, none⟩), .int .i64 cy, .int .i64 fr] w fun e w' => ∃ v rs O', e = .returned v ∧ Gone w0 w O id w' O' ∧ PA w' O' id p c (finish s cy fr) ∧ Out w0 w' O' 3 1 (finishL s cy fr).length v rs (ints .i64 (finishL s cy fr)) ∧ ∀ y ∈ rs, w.heap.size ≤ y := by
  by_cases hf : fr = 0
  · subst hf
    obtain ⟨qs, h1, h2⟩ := h
    have hT : ∀ x ∈ [p], O x = id := fun x hx => h2 x (by simp at hx ⊢; simp [hx])
    refine (Finish_loop w p c qs s cy h1).mono fun e w' ⟨v, rs, qs', k1, k2, k3, k4, k5, k6⟩ => ?_
    obtain ⟨g1, g2, g3, g4⟩ := more (l := qs') hg hid k4 hT (fun x hx => ⟨.inr (k6 x hx), (k3.qne x hx).2.2⟩)
    refine ⟨v, rs, _, k1, ⟨g1, g2, ⟨_, k4, hT⟩, g4⟩, ⟨qs', k3, fun x hx => ?_⟩, ⟨k2, fun y hy => ?_⟩, fun y hy => (k5 y hy).1⟩
    · rcases List.mem_cons.1 hx with rfl | hx
      · rw [g2 _ (by rw [h2 _ (by simp)]; exact hid)]; exact h2 _ (by simp)
      rcases List.mem_cons.1 hx with rfl | hx
      · rw [g2 _ (by rw [h2 _ (by simp)]; exact hid)]; exact h2 _ (by simp)
      · exact g3 x hx
    · have := k5 y hy
      refine ⟨?_, Nat.le_trans hg.ch.size this.1, this.2.1⟩
      unfold put
      rw [if_neg this.2.2]
      rcases Nat.eq_zero_or_pos (O y) with h0 | h0
      · exact h0
      · have := hg.ow y (by omega); omega
  · have e1 : finishL s cy fr = [] := by unfold finishL; rw [if_neg hf]
    have e2 : finish s cy fr = s := by unfold finish; rw [if_neg hf]
    rw [e1, e2]
    obtain ⟨qs, h1, h2⟩ := h
    refine (Finish_not w p c qs s cy fr h1 hf).mono fun e w' ⟨k1, k2⟩ => ⟨_, [], O, k1, ?_⟩
    subst k2
    exact ⟨⟨hg, Ext.refl _, ⟨[], Ch.refl _ _, by simp⟩, fun _ _ h => h⟩, ⟨qs, h1, h2⟩, ⟨Row.nil _ _ _ _, fun y hy => by cases hy⟩, fun y hy => by cases hy⟩
theorem Finish_r (hg : G w0 w O) (hid : id ≠ 0) (h : PR w O id p c s) (inv : Inv s) (cy fr : Int) :
    Calls Try.prog 25 #[.pointer (some ⟨p, 0, none⟩), .int .i64 cy, .int .i64 fr] w fun e w' => ∃ v rs O', e = .returned v ∧ Gone w0 w O id w' O' ∧ PR w' O' id p c (finish s cy fr) ∧ Row w' 3 1 v rs (finishL s cy fr).length (ints .i64 (finishL s cy fr)) ∧ (∀ q ∈ rs, w.heap.size ≤ q ∧ q < w'.heap.size ∧ O' q = 0) ∧ (∀ y, y < w.heap.size → O y = 0 → O' y = 0) := by
  obtain ⟨qs, h1, h2⟩ := h
  have hT : ∀ x ∈ [p], O x = id := fun x hx => h2 x (by simp at hx ⊢; simp [hx])
  refine (R12.Finish_any w p c qs s cy fr h1 inv).mono fun e w' ⟨v, rs, qs', k1, k2, k3, k4, k5, k6⟩ => ?_
  obtain ⟨g1, g2, g3, g4⟩ := more (l := qs') hg hid k4 hT (fun x hx => ⟨.inr (k6 x hx), (k3.qne x hx).2.2⟩)
  refine ⟨v, rs, _, k1, ⟨g1, g2, ⟨_, k4, hT⟩, g4⟩, ⟨qs', k3, fun x hx => ?_⟩, k2, fun y hy => ⟨(k5 y hy).1, (k5 y hy).2.1, ?_⟩, g4⟩
  rotate_left
  · unfold put
    rw [if_neg (k5 y hy).2.2]
    rcases Nat.eq_zero_or_pos (O y) with h0 | h0
    · exact h0
    · have := hg.ow y (by omega); have := (k5 y hy).1; omega
  rcases List.mem_cons.1 hx with rfl | hx
  · rw [g2 _ (by rw [h2 _ (by simp)]; exact hid)]; exact h2 _ (by simp)
  rcases List.mem_cons.1 hx with rfl | hx
  · rw [g2 _ (by rw [h2 _ (by simp)]; exact hid)]; exact h2 _ (by simp)
  · exact g3 x hx
end
end Go.Proofs.Ytdncodandmjknaa.D12
