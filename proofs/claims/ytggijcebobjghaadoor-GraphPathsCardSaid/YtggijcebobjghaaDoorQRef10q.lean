/-
  The table of dappleref10.Path, in memory (no walk).
-/
import Derived.Test.YtggijcebobjghaaDoorQRef10p
import Derived.Test.YtggijcebobjghaaDoorQOwnBools
set_option linter.unusedVariables false
set_option linter.unusedSimpArgs false
set_option maxRecDepth 100000
namespace Go.Proofs.YtggijcebobjghaaDoor.Rp
open Go.RowKit Go.Proofs.YtggijcebobjghaaDoor.Wd Go.Proofs.YtggijcebobjghaaDoor.Hp Go.Proofs.YtggijcebobjghaaDoor.Gr Go.Proofs.YtggijcebobjghaaDoor.Gp Go.Proofs.YtggijcebobjghaaDoor.Sm Go.Proofs.YtggijcebobjghaaDoor.Bf Go.Proofs.YtggijcebobjghaaDoor.Pa
/-- The last t rows of a table of q rows of N; the row that stands j from the end lies in block R j. -/
structure TB (w : World) (cb q N : Nat) (F : Nat → List Bool) (t : Nat) (R : Nat → Nat) : Prop where
  tab : ∃ arr, w.heap[cb]? = some (.cells arr 68 (0, 0)) ∧ arr.size = q ∧ ∀ j, j < t → arr[q - 1 - j]? = some (.slice (some ⟨R j, 0, none⟩) N N)
  row : ∀ j, j < t → w.heap[R j]? = some (.cells (bv (F j)).toArray 4 (0, 0))
  inc : ∀ j k, j < k → k < t → R j < R k
  cbl : ∀ j, j < t → cb < R j
  tq : t ≤ q
theorem TB.ch {w w' : World} {cb q N t : Nat} {F : Nat → List Bool} {R : Nat → Nat} (h : TB w cb q N F t R) (hc : Ch [] w w') : TB w' cb q N F t R := by
  obtain ⟨arr, h1, h2, h3⟩ := h.tab
  exact ⟨⟨arr, hc.heap h1 (by simp), h2, h3⟩, fun j hj => hc.heap (h.row j hj) (by simp), h.inc, h.cbl, h.tq⟩
theorem TB.congr {w : World} {cb q N t : Nat} {F F' : Nat → List Bool} {R : Nat → Nat} (h : TB w cb q N F t R) (he : ∀ j, j < t → F j = F' j) : TB w cb q N F' t R :=
  ⟨h.tab, fun j hj => by rw [← he j hj]; exact h.row j hj, h.inc, h.cbl, h.tq⟩
theorem TB.ne {w : World} {cb q N t : Nat} {F : Nat → List Bool} {R : Nat → Nat} (h : TB w cb q N F t R) {j k : Nat} (hj : j < t) (hk : k < t) (e : j ≠ k) : R j ≠ R k := by
  rcases Nat.lt_or_ge j k with h1 | h1
  · have := h.inc j k h1 hk; omega
  · have := h.inc k j (by omega) hj; omega
/-- The newest row is written. -/
theorem TB.set {w : World} {cb q N t : Nat} {F : Nat → List Bool} {R : Nat → Nat} (h : TB w cb q N F (t + 1) R) (c : Nat) (b : Bool) : TB (w.setCell ⟨R t, c, none⟩ (.bool b)) cb q N (fun j => if j = t then (F t).set c b else F j) (t + 1) R := by
  obtain ⟨arr, h1, h2, h3⟩ := h.tab
  have hcb := h.cbl t (by omega)
  refine ⟨⟨arr, (heap_set_ne (by omega)).trans h1, h2, h3⟩, fun j hj => ?_, h.inc, h.cbl, h.tq⟩
  by_cases e : j = t
  · subst e
    rw [if_pos rfl, ← bv_set]; exact heap_set (h.row j hj) _
  · rw [if_neg e]
    exact (heap_set_ne (h.ne hj (by omega) e)).trans (h.row j hj)
/-- One row more. -/
theorem TB.grow {w : World} {cb q N t : Nat} {F : Nat → List Bool} {R : Nat → Nat} (h : TB w cb q N F t R) (L : List Bool) (ht : t < q) :
    TB ((w.alloc (.cells (bv L).toArray 4)).setCell ⟨cb, q - 1 - t, none⟩ (.slice (some ⟨w.heap.size, 0, none⟩) N N)) cb q N (fun j => if j = t then L else F j) (t + 1) (fun j => if j = t then w.heap.size else R j) := by
  obtain ⟨arr, h1, h2, h3⟩ := h.tab
  have hcb := lt_of h1
  have hl : ∀ j, j < t → R j < w.heap.size := fun j hj => lt_of (h.row j hj)
  refine ⟨⟨_, heap_set (heap_old h1) _, by simpa using h2, fun j hj => ?_⟩, fun j hj => ?_, fun j k hjk hk => ?_, fun j hj => ?_, ht⟩
  · rw [Array.getElem?_setIfInBounds]
    by_cases e : j = t
    · subst e
      rw [if_pos rfl, if_pos (by omega), if_pos rfl]
    · rw [if_neg (by omega), if_neg e]; exact h3 j (by omega)
  · by_cases e : j = t
    · subst e
      rw [if_pos rfl, if_pos rfl]
      exact (heap_set_ne (by omega)).trans (heap_new w _)
    · rw [if_neg e, if_neg e]
      have := h.cbl j (by omega)
      exact (heap_set_ne (by omega)).trans (heap_old (h.row j (by omega)))
  · by_cases e : k = t
    · rw [if_pos e, if_neg (by omega)]; exact hl j (by omega)
    · rw [if_neg e, if_neg (by omega)]; exact h.inc j k hjk (by omega)
  · by_cases e : j = t
    · rw [if_pos e]; exact hcb
    · rw [if_neg e]; exact h.cbl j (by omega)
/-- What is read. -/
theorem TB.at_ {w : World} {cb q N t : Nat} {F : Nat → List Bool} {R : Nat → Nat} (h : TB w cb q N F t R) {j i : Nat} (hj : j < t) (hi : i + j + 1 = q) : w.cell? ⟨cb, i, none⟩ = some (.slice (some ⟨R j, 0, none⟩) N N) := by
  obtain ⟨arr, h1, h2, h3⟩ := h.tab
  rw [cell_at h1, show i = q - 1 - j by omega]; exact h3 j hj
theorem TB.bit {w : World} {cb q N t : Nat} {F : Nat → List Bool} {R : Nat → Nat} (h : TB w cb q N F t R) {j c : Nat} (hj : j < t) (hc : c < (F j).length) : w.cell? ⟨R j, c, none⟩ = some (.bool ((F j).getD c false)) := by
  rw [cell_at (h.row j hj), List.getElem?_toArray, bv_at _ _ hc]
  simp [List.getD_eq_getElem?_getD, hc]
theorem TB.free {w : World} {cb q N t : Nat} {F : Nat → List Bool} {R : Nat → Nat} (h : TB w cb q N F t R) {j c : Nat} (hj : j < t) : w.frozen? ⟨R j, c, none⟩ = false := free_at (h.row j hj)
def partL (F : List Bool) (N c : Nat) : List Bool := F.take c ++ List.replicate (N - c) false
theorem partL_len (F : List Bool) (N c : Nat) (hF : F.length = N) (hc : c ≤ N) : (partL F N c).length = N := by simp [partL, hF]; omega
theorem partL_zero (F : List Bool) (N : Nat) : partL F N 0 = List.replicate N false := by simp [partL]
theorem partL_all (F : List Bool) (N : Nat) (hF : F.length = N) : partL F N N = F := by
  simp [partL]; exact List.take_of_length_le (by omega)
theorem partL_at (F : List Bool) (N c d : Nat) (hF : F.length = N) (hc : c ≤ N) (hd : c ≤ d) (hdN : d < N) : (partL F N c).getD d false = false := by
  unfold partL
  rw [List.getD_eq_getElem?_getD, List.getElem?_append_right (by simp; omega), List.getElem?_replicate]
  split <;> rfl
theorem getD_setB (l : List Bool) (a c : Nat) (v : Bool) (ha : a < l.length) : (l.set a v).getD c false = if c = a then v else l.getD c false := by
  by_cases e : c = a
  · subst e; rw [if_pos rfl, List.getD_eq_getElem?_getD, List.getElem?_set_self ha]; rfl
  · rw [if_neg e, List.getD_eq_getElem?_getD, List.getElem?_set_ne (Ne.symm e), ← List.getD_eq_getElem?_getD]
theorem ext_getD {l l' : List Bool} (hl : l.length = l'.length) (h : ∀ c, c < l.length → l.getD c false = l'.getD c false) : l = l' := by
  apply List.ext_getElem hl
  intro c h1 h2
  have := h c h1
  simpa [List.getD_eq_getElem?_getD, h1, h2] using this
theorem partL_lt (F : List Bool) (N c d : Nat) (hF : F.length = N) (hd : d < c) (hc : c ≤ N) : (partL F N c).getD d false = F.getD d false := by
  unfold partL
  rw [List.getD_eq_getElem?_getD, List.getElem?_append_left (by simp; omega), List.getElem?_take, if_pos hd, ← List.getD_eq_getElem?_getD]
theorem partL_set (F : List Bool) (N c : Nat) (hF : F.length = N) (hc : c < N) : (partL F N c).set c (F.getD c false) = partL F N (c + 1) := by
  have l1 := partL_len F N c hF (by omega)
  have l2 := partL_len F N (c + 1) hF (by omega)
  refine ext_getD (by rw [List.length_set, l1, l2]) (fun d hd => ?_)
  rw [List.length_set, l1] at hd
  rw [getD_setB _ _ _ _ (by omega)]
  by_cases e : d = c
  · subst e; rw [if_pos rfl, partL_lt F N (d + 1) d hF (by omega) (by omega)]
  · rw [if_neg e]
    rcases Nat.lt_or_ge d c with h1 | h1
    · rw [partL_lt F N c d hF h1 (by omega), partL_lt F N (c + 1) d hF (by omega) (by omega)]
    · rw [partL_at F N c d hF (by omega) h1 hd, partL_at F N (c + 1) d hF (by omega) (by omega) hd]
theorem partL_same (F : List Bool) (N c : Nat) (hF : F.length = N) (hc : c < N) : (partL F N c).set c false = partL F N c := by
  have l1 := partL_len F N c hF (by omega)
  refine ext_getD (by rw [List.length_set]) (fun d hd => ?_)
  rw [List.length_set, l1] at hd
  rw [getD_setB _ _ _ _ (by omega)]
  by_cases e : d = c
  · subst e; rw [if_pos rfl, partL_at F N d d hF (by omega) (by omega) hd]
  · rw [if_neg e]
theorem anyC_zero (h : List Cel) (row : List Bool) (c : Nat) : anyC h row c 0 = false := rfl
theorem anyC_next (h : List Cel) (row : List Bool) (c k : Nat) : anyC h row c (k + 1) = (anyC h row c k || (row.getD k false && nm h c k)) := by
  unfold anyC
  rw [List.range_succ, List.any_append]
  simp
/-- The row that is being written: c cells done, of the c-th one k looked at. -/
def midL (h : List Cel) (A : List Nat) (to q t c k : Nat) : List Bool := (partL (canK h A to q (t + 1)) h.length c).set c (anyC h (canK h A to q t) c k)
theorem midL_zero (h : List Cel) (A : List Nat) (to q t c : Nat) (hc : c < h.length) : midL h A to q t c 0 = partL (canK h A to q (t + 1)) h.length c := by
  unfold midL
  rw [anyC_zero, partL_same _ _ _ (canK_len _ _ _ _ _) hc]
theorem midL_len (h : List Cel) (A : List Nat) (to q t c k : Nat) (hc : c < h.length) : (midL h A to q t c k).length = h.length := by
  unfold midL
  rw [List.length_set, partL_len _ _ _ (canK_len _ _ _ _ _) (by omega)]
theorem midL_at (h : List Cel) (A : List Nat) (to q t c k : Nat) (hc : c < h.length) : (midL h A to q t c k).getD c false = anyC h (canK h A to q t) c k := by
  unfold midL
  rw [getD_setB _ _ _ _ (by rw [partL_len _ _ _ (canK_len _ _ _ _ _) (by omega)]; exact hc), if_pos rfl]
theorem midL_set (h : List Cel) (A : List Nat) (to q t c k : Nat) : (midL h A to q t c k).set c (anyC h (canK h A to q t) c (k + 1)) = midL h A to q t c (k + 1) := by
  unfold midL; rw [List.set_set]
theorem midL_end (h : List Cel) (A : List Nat) (to q t c : Nat) (hc : c < h.length) (hA : A.getD c 0 + t + 1 = q) : midL h A to q t c h.length = partL (canK h A to q (t + 1)) h.length (c + 1) := by
  rw [← partL_set _ _ _ (canK_len _ _ _ _ _) hc]
  unfold midL
  congr 1
  rw [canK, map_at _ _ _ hc, decide_eq_true hA, Bool.true_and]
theorem midL_none (h : List Cel) (A : List Nat) (to q t c : Nat) (hc : c < h.length) (hA : ¬ A.getD c 0 + t + 1 = q) : midL h A to q t c 0 = partL (canK h A to q (t + 1)) h.length (c + 1) := by
  rw [← partL_set _ _ _ (canK_len _ _ _ _ _) hc]
  unfold midL
  congr 1
  rw [canK, map_at _ _ _ hc, decide_eq_false hA, Bool.false_and, anyC_zero]
end Go.Proofs.YtggijcebobjghaaDoor.Rp
