/-
  WHOSE MEMORY IS WHOSE: blocks that a law has made, each with the number of its owner; a book among them.
-/
import Derived.Test.YtlhhcocdhkbdnaaDoorBook
import Derived.Test.YtlhhcocdhkbdnaaDoorSame
set_option linter.unusedVariables false
set_option linter.unusedSimpArgs false
set_option maxRecDepth 100000
namespace Go.Proofs.YtlhhcocdhkbdnaaDoor.Own
open Go.RowKit Go.Proofs.YtlhhcocdhkbdnaaDoor.Hp

/-- Each block that somebody has was made since w0. -/
structure G (w0 w : World) (O : Nat → Nat) : Prop where
  ch : Ch [] w0 w
  ow : ∀ x, O x ≠ 0 → w0.heap.size ≤ x ∧ x < w.heap.size
def Ext (O O' : Nat → Nat) : Prop := ∀ x, O x ≠ 0 → O' x = O x
theorem Ext.refl (O : Nat → Nat) : Ext O O := fun _ _ => rfl
theorem Ext.trans {O O' O'' : Nat → Nat} (h : Ext O O') (k : Ext O' O'') : Ext O O'' := fun x hx => by rw [← h x hx]; exact k x (by rw [h x hx]; exact hx)
/-- Blocks that are new get an owner. -/
def put (O : Nat → Nat) (id : Nat) (l : List Nat) : Nat → Nat := fun x => if x ∈ l then id else O x
theorem put_ext {w0 w w' : World} {O : Nat → Nat} (h : G w0 w O) (id : Nat) (l : List Nat) (hl : ∀ x ∈ l, O x = id ∨ w.heap.size ≤ x) : Ext O (put O id l) := by
  intro x hx
  unfold put
  by_cases hm : x ∈ l
  · rw [if_pos hm]
    rcases hl x hm with h1 | h1
    · exact h1.symm
    · have := h.ow x hx; omega
  · rw [if_neg hm]
theorem put_at (O : Nat → Nat) (id : Nat) (l : List Nat) : ∀ x ∈ l, put O id l x = id := fun x hx => by unfold put; rw [if_pos hx]
theorem G.step {w0 w w' : World} {O : Nat → Nat} {T : List Nat} (h : G w0 w O) (hc : Ch T w w') (hT : ∀ x ∈ T, O x ≠ 0 ∨ w.heap.size ≤ x) : G w0 w' O :=
  ⟨h.ch.trans hc (fun x hx => .inr (by
    rcases hT x hx with h1 | h1
    · exact (h.ow x h1).1
    · exact Nat.le_trans h.ch.size h1)), fun x hx => ⟨(h.ow x hx).1, Nat.lt_of_lt_of_le (h.ow x hx).2 hc.size⟩⟩
theorem G.put {w0 w : World} {O : Nat → Nat} (h : G w0 w O) (id : Nat) (l : List Nat) (hl : ∀ x ∈ l, O x = id ∨ (w0.heap.size ≤ x ∧ x < w.heap.size)) : G w0 w (put O id l) :=
  ⟨h.ch, fun x hx => by
    unfold Own.put at hx
    by_cases hm : x ∈ l
    · rw [if_pos hm] at hx
      rcases hl x hm with h1 | h1
      · exact h.ow x (by rw [h1]; exact hx)
      · exact h1
    · rw [if_neg hm] at hx; exact h.ow x hx⟩
/-- Blocks of one owner are not another one's. -/
theorem apart {O : Nat → Nat} {T : List Nat} {x id : Nat} (hx : O x = id) (hT : ∀ y ∈ T, O y ≠ id) : x ∉ T := fun hm => hT x hm hx

/-- One kind of lists in a book: those that lie in it, in the blocks lq; what they hold lies in blocks of owner d. -/
structure Kd (w : World) (O : Nat → Nat) (e st : TypeId) (sz : Nat) (q d : Nat) (v : Value) (n : Nat) : Prop where
  all : ∃ (lq : List Nat) (vs : List SV), vs.length = n ∧ Row w st 1 v lq n (vs.map SV.val) ∧ (∀ x ∈ lq, O x = q) ∧ (∀ x ∈ vs, Room w e sz x ∧ x.n ≤ 1000000) ∧ (∀ x ∈ vs, ∀ y ∈ x.bk, O y = d) ∧
    (∀ i j, i < n → j < n → i ≠ j → ∀ y ∈ (vs.getD i SV.nil).bk, y ∉ (vs.getD j SV.nil).bk)
theorem Kd.nil (w : World) (O : Nat → Nat) (e st : TypeId) (sz q d : Nat) : Kd w O e st sz q d (.slice none 0 0) 0 :=
  ⟨[], [], rfl, Row.nil _ _ _ _, (fun x hx => by cases hx), (fun x hx => by cases hx), (fun x hx => by cases hx), (fun i j hi => absurd hi (by omega))⟩
theorem Kd.keep {w w' : World} {O O' : Nat → Nat} {e st : TypeId} {sz q d n : Nat} {v : Value} {T : List Nat} (h : Kd w O e st sz q d v n) (hc : Ch T w w') (hx : Ext O O') (hq : q ≠ 0) (hd : d ≠ 0) (hT : ∀ x ∈ T, O x ≠ q ∧ O x ≠ d) : Kd w' O' e st sz q d v n := by
  obtain ⟨lq, vs, h1, h2, h3, h4, h5, h6⟩ := h.all
  refine ⟨lq, vs, h1, h2.ch hc (fun x hm => apart (h3 x hm) (fun y hy => (hT y hy).1)), fun x hm => ?_, fun x hm => ⟨(h4 x hm).1.keep (fun y hy o ho => hc.heap ho (apart (h5 x hm y hy) (fun z hz => (hT z hz).2))), (h4 x hm).2⟩, fun x hm y hy => ?_, h6⟩
  · rw [hx x (by rw [h3 x hm]; exact hq)]; exact h3 x hm
  · rw [hx y (by rw [h5 x hm y hy]; exact hd)]; exact h5 x hm y hy
theorem getD_mem {vs : List SV} {j : Nat} (h : j < vs.length) : vs.getD j SV.nil ∈ vs := by
  rw [show vs.getD j SV.nil = vs[j] by simp [List.getD, h]]; exact List.getElem_mem h
/-- What an own.. function asks. -/
theorem Kd.lls {w : World} {O : Nat → Nat} {e st : TypeId} {sz q d n : Nat} {ao : Option Addr} {cap : Nat} (h : Kd w O e st sz q d (.slice ao n cap) n) (hqd : q ≠ d) : ∃ V S, LLs w e sz ao n V S ∧ ∀ x ∈ S, O x = d := by
  obtain ⟨lq, vs, h1, h2, h3, h4, h5, h6⟩ := h.all
  refine ⟨fun j => vs.getD j SV.nil, vs.flatMap SV.bk, ⟨?_, fun j hj => h4 _ (getD_mem (by omega)), h6, fun j hj x hx => List.mem_flatMap.2 ⟨_, getD_mem (by omega), hx⟩⟩, fun x hx => ?_⟩
  · obtain ⟨hl, ao', cap', hv, g1, g2, g3, g4⟩ := h2
    simp only [Value.slice.injEq, true_and] at hv
    obtain ⟨rfl, rfl⟩ := hv
    rcases Nat.eq_zero_or_pos n with h0 | h0
    · exact .inl h0
    · right
      obtain ⟨b, off, arr, k1, k2, k3, k4, k5⟩ := g4.resolve_left (by omega)
      refine ⟨b, off, k2, fun hm => ?_, fun j hj => ?_⟩
      · obtain ⟨x, hx, hb⟩ := List.mem_flatMap.1 hm
        have e1 := h3 b k1
        have e2 := h5 x hx b hb
        omega
      · rw [cell_at k3, k5 j (by omega)]
        simp [List.getD_eq_getElem?_getD, show j < vs.length by omega]
  · obtain ⟨y, hy, hb⟩ := List.mem_flatMap.1 hx
    exact h5 y hy x hb
/-- A row of the walk's own, as a slice that may be put into a book. -/
theorem Row.sv {w : World} {e : TypeId} {sz n : Nat} {qs : List Nat} {v : Value} {xs : List Value} (h : Row w e sz v qs n xs) : ∃ ao cap, v = .slice ao n cap ∧ Room w e sz ⟨ao, n, cap⟩ ∧ ∀ y ∈ (SV.mk ao n cap).bk, y ∈ qs := by
  obtain ⟨hl, ao, cap, rfl, g1, g2, g3, g4⟩ := h
  refine ⟨ao, cap, rfl, ⟨g1, g2, g3, g4.imp id fun ⟨q, off, arr, k1, k2, k3, k4, k5⟩ => ⟨q, off, arr, k2, k3, k4⟩⟩, fun y hy => ?_⟩
  unfold SV.bk at hy
  by_cases hc : cap = 0
  · rw [if_pos hc] at hy; cases hy
  · obtain ⟨q, off, arr, k1, k2, k3, k4, k5⟩ := g4.resolve_left hc
    rw [if_neg hc, k2] at hy
    simp at hy
    subst hy; exact k1
/-- One more list of that kind. -/
theorem Kd.add {w w' : World} {O : Nat → Nat} {e st : TypeId} {sz q d n : Nat} {v' : Value} {lq' : List Nat} {x : SV} {T : List Nat} {vs : List SV} (h1 : vs.length = n) (hc : Ch T w w') (hT : ∀ y ∈ T, O y ≠ d)
    (h4 : ∀ x ∈ vs, Room w e sz x ∧ x.n ≤ 1000000) (h5 : ∀ x ∈ vs, ∀ y ∈ x.bk, O y = d) (h6 : ∀ i j, i < n → j < n → i ≠ j → ∀ y ∈ (vs.getD i SV.nil).bk, y ∉ (vs.getD j SV.nil).bk)
    (hr : Row w' st 1 v' lq' (n + 1) (vs.map SV.val ++ [x.val])) (hlq : ∀ y ∈ lq', O y = q) (hx : Room w' e sz x ∧ x.n ≤ 1000000) (hxd : ∀ y ∈ x.bk, O y = d) (hxn : ∀ z ∈ vs, ∀ y ∈ x.bk, y ∉ z.bk) : Kd w' O e st sz q d v' (n + 1) := by
  refine ⟨lq', vs ++ [x], by simp [h1], by simpa using hr, hlq, fun z hz => ?_, fun z hz => ?_, fun i j hi hj hne y hy => ?_⟩
  · rcases List.mem_append.1 hz with hm | hm
    · exact ⟨(h4 z hm).1.keep (fun y hy o ho => hc.heap ho (apart (h5 z hm y hy) hT)), (h4 z hm).2⟩
    · simp at hm; subst hm; exact hx
  · rcases List.mem_append.1 hz with hm | hm
    · exact h5 z hm
    · simp at hm; subst hm; exact hxd
  · have gA : ∀ k, k < n → (vs ++ [x]).getD k SV.nil = vs.getD k SV.nil := fun k hk => by rw [List.getD_eq_getElem?_getD, List.getElem?_append_left (by omega), ← List.getD_eq_getElem?_getD]
    have gB : (vs ++ [x]).getD n SV.nil = x := by simp [List.getD_eq_getElem?_getD, List.getElem?_append, h1]
    by_cases hi' : i = n
    · subst hi'
      rw [gB] at hy
      rw [gA j (by omega)]
      exact hxn _ (getD_mem (by omega)) y hy
    · rw [gA i (by omega)] at hy
      by_cases hj' : j = n
      · subst hj'
        rw [gB]
        exact fun hm => hxn _ (getD_mem (by omega)) y hm hy
      · rw [gA j (by omega)]
        exact h6 i j (by omega) (by omega) hne y hy
end Go.Proofs.YtlhhcocdhkbdnaaDoor.Own
