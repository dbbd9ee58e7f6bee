/-
  LISTS THAT ARE NOBODY ELSE's, on: the states of an own.. function, and how they go on (no program).
-/
import Derived.Test.YtlhhcocdhkbdnaaDoorOwnPre
set_option linter.unusedVariables false
set_option linter.unusedSimpArgs false
namespace Go.Proofs.YtlhhcocdhkbdnaaDoor.Own
open Go.RowKit Go.Proofs.YtlhhcocdhkbdnaaDoor.Hp

def rowOf (f : Nat → List Value) (m : Nat) : List Value := (List.range m).flatMap f
theorem rowOf_zero (f : Nat → List Value) : rowOf f 0 = [] := rfl
theorem rowOf_succ (f : Nat → List Value) (m : Nat) : rowOf f (m + 1) = rowOf f m ++ f m := by simp [rowOf, List.range_succ]
theorem rowOf_len {f : Nat → List Value} {sz : Nat} (hf : ∀ k, (f k).length = sz) : ∀ m, (rowOf f m).length = m * sz
  | 0 => by simp [rowOf]
  | m + 1 => by rw [rowOf_succ, List.length_append, rowOf_len hf m, hf, Nat.add_mul, Nat.one_mul]
theorem rowOf_get {f : Nat → List Value} {sz : Nat} (hf : ∀ k, (f k).length = sz) (k t : Nat) (ht : t < sz) : ∀ m, k < m → (rowOf f m)[k * sz + t]? = (f k)[t]?
  | 0, h => absurd h (by omega)
  | m + 1, h => by
    rw [rowOf_succ]
    have hl := rowOf_len hf m
    by_cases e : k = m
    · subst e; rw [List.getElem?_append_right (by omega), hl]; congr 1; omega
    · have : (k + 1) * sz ≤ m * sz := Nat.mul_le_mul_right _ (by omega)
      rw [Nat.add_mul, Nat.one_mul] at this
      rw [List.getElem?_append_left (by omega)]; exact rowOf_get hf k t ht m (by omega)

/-- N slices, each with room of its own in the blocks of S. -/
structure LLs (w : World) (e : TypeId) (sz : Nat) (bo : Option Addr) (N : Nat) (V : Nat → SV) (S : List Nat) : Prop where
  cells : N = 0 ∨ ∃ b off, bo = some ⟨b, off, none⟩ ∧ b ∉ S ∧ ∀ j, j < N → w.cell? ⟨b, off + j, none⟩ = some (V j).val
  room : ∀ j, j < N → Room w e sz (V j) ∧ (V j).n ≤ 1000000
  dis : ∀ i j, i < N → j < N → i ≠ j → ∀ q ∈ (V i).bk, q ∉ (V j).bk
  inS : ∀ j, j < N → ∀ q ∈ (V j).bk, q ∈ S
section
variable {e : TypeId} {sz : Nat} {bo : Option Addr} {N : Nat} {V : Nat → SV} {S : List Nat} {mk tk : Nat → Nat → List Value} {w0 w w' : World}

def P1 (e : TypeId) (sz N : Nat) (V : Nat → SV) (S : List Nat) (mk : Nat → Nat → List Value) (w0 w : World) (i k : Nat) : Prop :=
  Ch S w0 w ∧ ∀ j, j < N → Has w e sz (V j) (rowOf (mk j) (if j < i then (V j).n else if j = i then k else 0))
theorem P1.start (h : LLs w0 e sz bo N V S) : P1 e sz N V S mk w0 w0 0 0 :=
  ⟨Ch.refl _ _, fun j hj => by
    have : (if j < 0 then (V j).n else if j = 0 then 0 else 0) = 0 := by rw [if_neg (by omega)]; split <;> rfl
    rw [this]; exact Has.start (h.room j hj).1⟩
theorem P1.next {i : Nat} (h : P1 e sz N V S mk w0 w i (V i).n) : P1 e sz N V S mk w0 w (i + 1) 0 :=
  ⟨h.1, fun j hj => by
    have := h.2 j hj
    have e1 : (if j < i + 1 then (V j).n else if j = i + 1 then 0 else 0) = (if j < i then (V j).n else if j = i then (V i).n else 0) := by
      by_cases c1 : j < i
      · rw [if_pos c1, if_pos (by omega)]
      · by_cases c2 : j = i
        · subst c2; rw [if_pos (by omega), if_neg c1, if_pos rfl]
        · rw [if_neg (by omega), if_neg c1, if_neg c2]; split <;> rfl
    rw [e1]; exact this⟩
theorem P1.one (hl : LLs w0 e 1 bo N V S) {i k : Nat} (h : P1 e 1 N V S mk w0 w i k) (hi : i < N) (hk : k < (V i).n) (u : Value) (hm : mk i k = [u]) (hml : ∀ i k, (mk i k).length = 1) :
    ∃ q off, (V i).ao = some ⟨q, off, none⟩ ∧ (∃ u, w.cell? ⟨q, off + k, none⟩ = some u) ∧ w.frozen? ⟨q, off + k, none⟩ = false ∧ P1 e 1 N V S mk w0 (w.setCell ⟨q, off + k, none⟩ u) i (k + 1) := by
  have hi' := h.2 i hi
  rw [if_neg (by omega), if_pos rfl] at hi'
  obtain ⟨q, off, g1, g2, g3, g4, g5⟩ := hi'.at1 k hk (by rw [rowOf_len (hml i)]; omega)
  refine ⟨q, off, g1, g3, g4, h.1.setCell _ _ (.inl (hl.inS i hi q g2)), fun j hj => ?_⟩
  by_cases e1 : j = i
  · subst e1
    rw [if_neg (by omega), if_pos rfl, rowOf_succ, hm]
    exact g5 u
  · have hj' := h.2 j hj
    rw [if_neg e1] at hj' ⊢
    exact hj'.keep (fun q' hq' o ho => (heap_set_ne (fun e2 => hl.dis i j hi hj (Ne.symm e1) q g2 (by rw [← e2]; exact hq'))).trans ho)
theorem P1.two (hl : LLs w0 e 2 bo N V S) {i k : Nat} (h : P1 e 2 N V S mk w0 w i k) (hi : i < N) (hk : k < (V i).n) (u u' : Value) (hm : mk i k = [u, u']) (hml : ∀ i k, (mk i k).length = 2) :
    ∃ q off, (V i).ao = some ⟨q, off, none⟩ ∧ (∃ u, w.cell? ⟨q, off + k * 2, none⟩ = some u) ∧ (∃ u, w.cell? ⟨q, off + k * 2 + 1, none⟩ = some u) ∧ w.frozen? ⟨q, off + k * 2, none⟩ = false ∧ w.frozen? ⟨q, off + k * 2 + 1, none⟩ = false ∧
      P1 e 2 N V S mk w0 ((w.setCell ⟨q, off + k * 2, none⟩ u).setCell ⟨q, off + k * 2 + 1, none⟩ u') i (k + 1) := by
  have hi' := h.2 i hi
  rw [if_neg (by omega), if_pos rfl] at hi'
  obtain ⟨q, off, g1, g2, g3, g3', g4, g4', g5⟩ := hi'.at2 k hk (by rw [rowOf_len (hml i)])
  refine ⟨q, off, g1, g3, g3', g4, g4', (h.1.setCell _ _ (.inl (hl.inS i hi q g2))).setCell _ _ (.inl (hl.inS i hi q g2)), fun j hj => ?_⟩
  by_cases e1 : j = i
  · subst e1
    rw [if_neg (by omega), if_pos rfl, rowOf_succ, hm]
    exact g5 u u'
  · have hj' := h.2 j hj
    rw [if_neg e1] at hj' ⊢
    have hne := fun q' (hq' : q' ∈ (V j).bk) (e2 : q' = q) => hl.dis i j hi hj (Ne.symm e1) q g2 (by rw [← e2]; exact hq')
    exact hj'.keep (fun q' hq' o ho => (heap_set_ne (hne q' hq')).trans ((heap_set_ne (hne q' hq')).trans ho))

/-- The second part: i lists have grown. -/
structure P2 (e : TypeId) (sz : Nat) (st : TypeId) (N : Nat) (V : Nat → SV) (S : List Nat) (mk tk : Nat → Nat → List Value) (w0 w : World) (i : Nat) (lv : Value) (lq : List Nat) (ls : List Value) (lb : Nat → List Nat) : Prop where
  ch : Ch S w0 w
  has : ∀ j, j < N → Has w e sz (V j) (rowOf (mk j) (V j).n)
  len : ls.length = i
  long : Row w st 1 lv lq i ls
  lqs : ∀ q ∈ lq, w0.heap.size ≤ q ∧ q < w.heap.size
  rows : ∀ j, j < i → Row w e sz (ls.getD j undef) (lb j) ((V j).n + 16) (rowOf (mk j) (V j).n ++ rowOf (tk j) 16)
  lbs : ∀ j, j < i → ∀ q ∈ lb j, q < w.heap.size ∧ (q ∈ (V j).bk ∨ w0.heap.size ≤ q) ∧ q ∉ lq
  dis : ∀ j j', j < i → j' < i → j ≠ j' → ∀ q ∈ lb j, q ∉ lb j'
/-- .. and the i-th one by k elements. -/
structure PX (e : TypeId) (sz : Nat) (V : Nat → SV) (mk tk : Nat → Nat → List Value) (w0 w : World) (i k : Nat) (lq : List Nat) (lb : Nat → List Nat) (xv : Value) (xb : List Nat) : Prop where
  row : Row w e sz xv xb ((V i).n + k) (rowOf (mk i) (V i).n ++ rowOf (tk i) k)
  how : (xv = .slice (V i).ao ((V i).n + k) (V i).cap ∧ xb = (V i).bk) ∨ ∃ q, xb = [q] ∧ w0.heap.size ≤ q ∧ q < w.heap.size ∧ (∀ j, j < i → q ∉ lb j) ∧ q ∉ lq
theorem P2.start {st : TypeId} (h : P1 e sz N V S mk w0 w N 0) : P2 e sz st N V S mk tk w0 w 0 (.slice none 0 0) [] [] (fun _ => []) :=
  ⟨h.1, fun j hj => by have := h.2 j hj; rw [if_pos hj] at this; exact this, rfl, Row.nil _ _ _ _, (fun q hq => by cases hq), (fun j hj => absurd hj (by omega)), (fun j hj => absurd hj (by omega)), (fun j j' hj => absurd hj (by omega))⟩
theorem PX.start {st : TypeId} {i : Nat} {lv : Value} {lq : List Nat} {ls : List Value} {lb : Nat → List Nat} (h : P2 e sz st N V S mk tk w0 w i lv lq ls lb) (hi : i < N) (hml : ∀ i k, (mk i k).length = sz) (hsz : 0 < sz) : PX e sz V mk tk w0 w i 0 lq lb (V i).val (V i).bk :=
  ⟨by rw [rowOf_zero, List.append_nil]; exact (h.has i hi).row (rowOf_len (hml i) _) hsz, .inl ⟨rfl, rfl⟩⟩

theorem Has.below {w w' : World} {e : TypeId} {sz : Nat} {v : SV} {xs : List Value} (h : Has w e sz v xs) {q off : Nat} {arr arr' : Array Value} (ha : v.ao = some ⟨q, off, none⟩) (hq : w.heap[q]? = some (.cells arr e (0, 0))) (hq' : w'.heap[q]? = some (.cells arr' e (0, 0))) (hs : arr'.size = arr.size) (hj : ∀ j, j < off + v.n * sz → arr'[j]? = arr[j]?) : Has w' e sz v xs := by
  obtain ⟨⟨h1, h2, h3, h4⟩, m, k1, k2, k3⟩ := h
  have hle : m * sz ≤ v.n * sz := Nat.mul_le_mul_right _ k2
  refine ⟨⟨h1, h2, h3, h4.imp id fun ⟨q1, off1, arr1, a1, a2, a3⟩ => ?_⟩, m, k1, k2, k3.imp id fun ⟨q1, off1, arr1, a1, a2, a3⟩ => ?_⟩
  · rw [ha] at a1
    simp only [Option.some.injEq, Addr.mk.injEq, and_true] at a1
    obtain ⟨rfl, rfl⟩ := a1
    rw [hq] at a2
    simp only [Option.some.injEq, Obj.cells.injEq, and_true] at a2
    obtain rfl := a2
    exact ⟨q, off, arr', ha, hq', by omega⟩
  · rw [ha] at a1
    simp only [Option.some.injEq, Addr.mk.injEq, and_true] at a1
    obtain ⟨rfl, rfl⟩ := a1
    rw [hq] at a2
    simp only [Option.some.injEq, Obj.cells.injEq, and_true] at a2
    obtain rfl := a2
    exact ⟨q, off, arr', ha, hq', fun j hj2 => (hj _ (by omega)).trans (a3 j hj2)⟩
/-- What an old state keeps where nothing of it is written. -/
theorem P2.keep {st : TypeId} {i : Nat} {lv : Value} {lq : List Nat} {ls : List Value} {lb : Nat → List Nat} (hl : LLs w0 e sz bo N V S) (h : P2 e sz st N V S mk tk w0 w i lv lq ls lb) (T : List Nat) (hc : Ch T w w') (hT : ∀ q ∈ T, q ∈ S ∨ w0.heap.size ≤ q)
    (hV : ∀ j, j < N → Has w' e sz (V j) (rowOf (mk j) (V j).n)) (hq : ∀ q ∈ lq, q ∉ T) (hb : ∀ j, j < i → ∀ q ∈ lb j, q ∉ T) : P2 e sz st N V S mk tk w0 w' i lv lq ls lb :=
  ⟨h.ch.trans hc hT, hV, h.len, h.long.ch hc hq, fun q hm => ⟨(h.lqs q hm).1, Nat.lt_of_lt_of_le (h.lqs q hm).2 hc.size⟩, fun j hj => (h.rows j hj).ch hc (hb j hj), fun j hj q hm => ⟨Nat.lt_of_lt_of_le (h.lbs j hj q hm).1 hc.size, (h.lbs j hj q hm).2⟩, h.dis⟩
theorem P2.same {st : TypeId} {i : Nat} {lv : Value} {lq : List Nat} {ls : List Value} {lb : Nat → List Nat} (hl : LLs w0 e sz bo N V S) (h : P2 e sz st N V S mk tk w0 w i lv lq ls lb) (hc : Ch [] w w') : P2 e sz st N V S mk tk w0 w' i lv lq ls lb :=
  h.keep hl [] hc (fun q hq => by cases hq) (fun j hj => (h.has j hj).keep (fun q _ o ho => hc.heap ho (by simp))) (fun q _ => by simp) (fun j _ q _ => by simp)
theorem PX.same {i k : Nat} {lq : List Nat} {lb : Nat → List Nat} {xv : Value} {xb : List Nat} (h : PX e sz V mk tk w0 w i k lq lb xv xb) (hc : Ch [] w w') : PX e sz V mk tk w0 w' i k lq lb xv xb :=
  ⟨h.row.ch hc (by simp), h.how.imp id fun ⟨q, h1, h2, h3, h4⟩ => ⟨q, h1, h2, Nat.lt_of_lt_of_le h3 hc.size, h4⟩⟩
/-- One more element behind the i-th list. -/
theorem P2.grow {st : TypeId} {i k : Nat} {lv : Value} {lq : List Nat} {ls : List Value} {lb : Nat → List Nat} {ax : Option Addr} {cx : Nat} {xb xb' : List Nat} {v' : Value} (hl : LLs w0 e sz bo N V S) (hi : i < N) (hml : ∀ i k, (mk i k).length = sz) (h : P2 e sz st N V S mk tk w0 w i lv lq ls lb) (hx : PX e sz V mk tk w0 w i k lq lb (.slice ax ((V i).n + k) cx) xb)
    (hr : Row w' e sz v' xb' ((V i).n + k + 1) (rowOf (mk i) (V i).n ++ rowOf (tk i) k ++ tk i k)) (hg : Grew w w' e sz ax ((V i).n + k) cx 1 v' xb xb') : P2 e sz st N V S mk tk w0 w' i lv lq ls lb ∧ PX e sz V mk tk w0 w' i (k + 1) lq lb v' xb' := by
  have hrow' : Row w' e sz v' xb' ((V i).n + (k + 1)) (rowOf (mk i) (V i).n ++ rowOf (tk i) (k + 1)) := by rw [rowOf_succ, ← List.append_assoc]; exact hr
  rcases hg with ⟨rfl, rfl, q, off, arr, arr', rfl, hq, g1, g2, g3, g4, g5⟩ | ⟨q', rfl, g1, g2, g3⟩
  · rcases hx.how with ⟨e1, e2⟩ | ⟨q1, e1, k1, k2, k3, k4⟩
    · -- it lies where it lay
      simp only [Value.slice.injEq] at e1
      obtain ⟨e3, _, e4⟩ := e1
      have hqb : q ∈ (V i).bk := e2 ▸ hq
      have hqs := (hl.room i hi).1.lt q hqb
      refine ⟨h.keep hl [q] g5 (fun x hx => by simp at hx; subst hx; exact .inl (hl.inS i hi _ hqb)) (fun j hj => ?_) (fun x hxm hm => ?_) (fun j hj x hxm hm => ?_), hrow', .inl ⟨by rw [e3, e4]; rfl, e2⟩⟩
      · by_cases ej : j = i
        · subst ej
          refine (h.has j hj).below e3.symm g1 g2 g3 (fun y hy => g4 y ?_)
          have : (V j).n * sz ≤ ((V j).n + k) * sz := Nat.mul_le_mul_right _ (by omega)
          omega
        · exact (h.has j hj).keep (fun x hx o ho => g5.heap ho (by simp; intro e5; exact hl.dis i j hi hj (Ne.symm ej) q hqb (e5 ▸ hx)))
      · simp at hm; subst hm; have := (h.lqs _ hxm).1; omega
      · simp at hm; subst hm
        rcases (h.lbs j hj _ hxm).2.1 with h1 | h1
        · exact hl.dis j i (by omega) hi (by omega) _ h1 hqb
        · omega
    · -- it lies in a block of its own
      rw [e1] at hq
      simp at hq
      subst hq
      refine ⟨h.keep hl [q] g5 (fun x hx => by simp at hx; subst hx; exact .inr k1) (fun j hj => (h.has j hj).keep (fun x hx o ho => g5.heap ho (by simp; intro e5; have := (hl.room j hj).1.lt x hx; omega))) (fun x hxm hm => ?_) (fun j hj x hxm hm => ?_), hrow', .inr ⟨q, e1, k1, Nat.lt_of_lt_of_le k2 g5.size, k3, k4⟩⟩
      · simp at hm; subst hm; exact k4 hxm
      · simp at hm; subst hm; exact k3 j hj hxm
  · have hw := h.ch.size
    refine ⟨h.same hl g3, hrow', .inr ⟨q', rfl, by omega, g2, fun j hj hm => ?_, fun hm => ?_⟩⟩
    · have := (h.lbs j hj q' hm).1; omega
    · have := (h.lqs q' hm).2; omega
/-- The i-th list is laid behind the others. -/
theorem P2.next {st : TypeId} {i : Nat} {lv lv' : Value} {lq lq' : List Nat} {ls : List Value} {lb : Nat → List Nat} {xv : Value} {xb : List Nat} (hl : LLs w0 e sz bo N V S) (hi : i < N) (h : P2 e sz st N V S mk tk w0 w i lv lq ls lb) (hx : PX e sz V mk tk w0 w i 16 lq lb xv xb)
    (hr : Row w' st 1 lv' lq' (i + 1) (ls ++ [xv])) (hc : Ch lq w w') (hn : News lq lq' w w') : ∃ lb', P2 e sz st N V S mk tk w0 w' (i + 1) lv' lq' (ls ++ [xv]) lb' := by
  have hxb : ∀ q ∈ xb, q ∉ lq ∧ q < w.heap.size ∧ (q ∈ (V i).bk ∨ w0.heap.size ≤ q) ∧ ∀ j, j < i → q ∉ lb j := by
    intro q hq
    rcases hx.how with ⟨_, e2⟩ | ⟨q1, e1, k1, k2, k3, k4⟩
    · have hb : q ∈ (V i).bk := e2 ▸ hq
      have hlt := (hl.room i hi).1.lt q hb
      have := h.ch.size
      refine ⟨fun hm => by have := (h.lqs q hm).1; omega, by omega, .inl hb, fun j hj hm => ?_⟩
      rcases (h.lbs j hj q hm).2.1 with h1 | h1
      · exact hl.dis j i (by omega) hi (by omega) q h1 hb
      · omega
    · rw [e1] at hq; simp at hq; subst hq
      exact ⟨k4, k2, .inr k1, k3⟩
  have hVq : ∀ j, j < N → ∀ q ∈ (V j).bk, q ∉ lq := fun j hj q hq hm => by have := (hl.room j hj).1.lt q hq; have := (h.lqs q hm).1; omega
  have hfresh : ∀ q ∈ lq', q ∈ lq ∨ (w.heap.size ≤ q ∧ q < w'.heap.size) := fun q hq => hn.mem hq
  have hsz := hc.size
  have hsz0 := h.ch.size
  refine ⟨fun j => if j = i then xb else lb j, h.ch.trans hc (fun q hq => .inr (h.lqs q hq).1), fun j hj => (h.has j hj).keep (fun q hq o ho => hc.heap ho (hVq j hj q hq)), by simp [h.len], hr, fun q hq => ?_, fun j hj => ?_, fun j hj q hq => ?_, fun j j' hj hj' hne q hq => ?_⟩
  · rcases hfresh q hq with h1 | h1
    · have := h.lqs q h1; omega
    · omega
  · by_cases ej : j = i
    · subst ej
      simp only [if_true]
      have : (ls ++ [xv]).getD j undef = xv := by simp [List.getD_eq_getElem?_getD, List.getElem?_append, h.len]
      rw [this]
      exact hx.row.ch hc (fun q hq => (hxb q hq).1)
    · simp only [if_neg ej]
      have : (ls ++ [xv]).getD j undef = ls.getD j undef := by rw [List.getD_eq_getElem?_getD, List.getElem?_append_left (by rw [h.len]; omega), ← List.getD_eq_getElem?_getD]
      rw [this]
      exact (h.rows j (by omega)).ch hc (fun q hq => (h.lbs j (by omega) q hq).2.2)
  · by_cases ej : j = i
    · subst ej
      simp only [if_true] at hq
      have := hxb q hq
      refine ⟨by omega, this.2.2.1, fun hm => ?_⟩
      rcases hfresh q hm with h1 | h1
      · exact this.1 h1
      · omega
    · simp only [if_neg ej] at hq
      have := h.lbs j (by omega) q hq
      refine ⟨by omega, this.2.1, fun hm => ?_⟩
      rcases hfresh q hm with h1 | h1
      · exact this.2.2 h1
      · omega
  · by_cases ej : j = i
    · subst ej
      simp only [if_true] at hq
      rw [if_neg (Ne.symm hne)]
      exact (hxb q hq).2.2.2 j' (by omega)
    · simp only [if_neg ej] at hq
      by_cases ej' : j' = i
      · subst ej'
        simp only [if_true]
        exact fun hm => (hxb q hm).2.2.2 j (by omega) hq
      · simp only [if_neg ej']
        exact h.dis j j' (by omega) (by omega) hne q hq
end
end Go.Proofs.YtlhhcocdhkbdnaaDoor.Own
