/-
  THE WALKS of dappleref03's heap of cells.
-/
import Derived.Test.YtefamhdkfdgdjaaDoorQMark1
set_option linter.unusedVariables false
set_option linter.unusedSimpArgs false
set_option maxRecDepth 100000
namespace Go.Proofs.YtefamhdkfdgdjaaDoor.R03
open Go.RowKit Go.Proofs.YtefamhdkfdgdjaaDoor.Hp Go.Proofs.YtefamhdkfdgdjaaDoor.Cp Go.Proofs.YtefamhdkfdgdjaaDoor.Cl Go.Proofs.YtefamhdkfdgdjaaDoor.Mk
/-- The document's heap: a block with a slice, its cells in another block. -/
structure RH (w : World) (rp rb : Nat) (l : List Cel) : Prop where
  hd : w.heap[rp]? = some (.cells #[.slice (some ⟨rb, 0, none⟩) l.length l.length] 103 (0, 0))
  bd : w.heap[rb]? = some (.cells (Cl.flat l).toArray 86 (0, 0))
  ne : rp ≠ rb
  le : l.length ≤ 4096
theorem RH.ch {w w' : World} {rp rb : Nat} {l : List Cel} {T : List Nat} (h : RH w rp rb l) (hc : Ch T w w') (h1 : rp ∉ T) (h2 : rb ∉ T) : RH w' rp rb l := ⟨hc.heap h.hd h1, hc.heap h.bd h2, h.ne, h.le⟩
theorem RH.at_ {w : World} {rp rb : Nat} {l : List Cel} (h : RH w rp rb l) (n : Nat) (hn : n < l.length) : w.cell? ⟨rb, n * 4, none⟩ = some (.int .u8 (l.getD n free).k) ∧ w.cell? ⟨rb, n * 4 + 1, none⟩ = some (.int .u8 (l.getD n free).c) ∧ w.cell? ⟨rb, n * 4 + 2, none⟩ = some (.int .u64 (l.getD n free).a) ∧ w.cell? ⟨rb, n * 4 + 3, none⟩ = some (.int .u64 (l.getD n free).b) := by
  have e : ∀ t, t < 4 → w.cell? ⟨rb, n * 4 + t, none⟩ = (cel (l.getD n free)).toList[t]? := fun t ht => by rw [cell_at h.bd, List.getElem?_toArray]; exact Cl.flat_get l n t hn ht
  exact ⟨e 0 (by omega), e 1 (by omega), e 2 (by omega), e 3 (by omega)⟩
theorem RH.free_ {w : World} {rp rb : Nat} {l : List Cel} (h : RH w rp rb l) (i : Nat) : w.frozen? ⟨rb, i, none⟩ = false := free_at h.bd
theorem arr_flat {l : List Cel} {arr : Array Value} (hs : arr.size = l.length * 4) (ha : ∀ n t, n < l.length → t < 4 → arr[n * 4 + t]? = (cel (l.getD n free)).toList[t]?) : arr = (Cl.flat l).toArray := by
  apply Array.ext_getElem?
  intro m
  by_cases hm : m < l.length * 4
  · have h4 : m % 4 < 4 := Nat.mod_lt _ (by omega)
    have hi : m / 4 < l.length := by omega
    have g1 := ha (m / 4) (m % 4) hi h4
    have g2 := Cl.flat_get l (m / 4) (m % 4) hi h4
    rw [show m / 4 * 4 + m % 4 = m by omega] at g1 g2
    rw [g1, List.getElem?_toArray, g2]
  · rw [Array.getElem?_eq_none (by omega), Array.getElem?_eq_none (by simp [Cl.flat_length]; omega)]
theorem getD_setC (l : List Cel) (a d : Nat) (x : Cel) (ha : a < l.length) : (l.set a x).getD d free = if d = a then x else l.getD d free := by
  by_cases e : d = a
  · subst e; rw [if_pos rfl]; simp [List.getD_eq_getElem?_getD, ha]
  · rw [if_neg e, List.getD_eq_getElem?_getD, List.getElem?_set_ne (Ne.symm e), ← List.getD_eq_getElem?_getD]
/-- One field is written. -/
theorem RH.store {w : World} {rp rb : Nat} {l : List Cel} (h : RH w rp rb l) {n t0 : Nat} (hn : n < l.length) (ht : t0 < 4) {x : Cel} {v : Value} (hx : ∀ t, t < 4 → (cel x).toList[t]? = if t = t0 then some v else (cel (l.getD n free)).toList[t]?) :
    RH (w.setCell ⟨rb, n * 4 + t0, none⟩ v) rp rb (l.set n x) ∧ Ch [rb] w (w.setCell ⟨rb, n * 4 + t0, none⟩ v) := by
  refine ⟨⟨by rw [List.length_set]; exact (heap_set_ne h.ne).trans h.hd, ?_, h.ne, by rw [List.length_set]; exact h.le⟩, (Ch.refl _ _).setCell _ _ (.inl (by simp))⟩
  rw [heap_set h.bd]
  congr 2
  refine arr_flat (by simp [Cl.flat_length]) (fun m t hm ht2 => ?_)
  rw [List.length_set] at hm
  rw [getD_setC _ _ _ _ hn, Array.getElem?_setIfInBounds]
  have hf := Cl.flat_get l m t hm ht2
  by_cases e : m = n
  · subst e
    rw [if_pos rfl, hx t ht2]
    by_cases e2 : t = t0
    · subst e2
      rw [if_pos rfl, if_pos rfl, if_pos (by simp [Cl.flat_length]; omega)]
    · rw [if_neg (by omega), if_neg e2, List.getElem?_toArray]; exact hf
  · rw [if_neg e, if_neg (by omega), List.getElem?_toArray]; exact hf
/-- A cell is written. -/
theorem RH.store4 {w : World} {rp rb : Nat} {l : List Cel} (h : RH w rp rb l) {n : Nat} (hn : n < l.length) (x : Cel) :
    RH ((((w.setCell ⟨rb, n * 4, none⟩ (.int .u8 x.k)).setCell ⟨rb, n * 4 + 1, none⟩ (.int .u8 x.c)).setCell ⟨rb, n * 4 + 2, none⟩ (.int .u64 x.a)).setCell ⟨rb, n * 4 + 3, none⟩ (.int .u64 x.b)) rp rb (l.set n x) ∧ Ch [rb] w ((((w.setCell ⟨rb, n * 4, none⟩ (.int .u8 x.k)).setCell ⟨rb, n * 4 + 1, none⟩ (.int .u8 x.c)).setCell ⟨rb, n * 4 + 2, none⟩ (.int .u64 x.a)).setCell ⟨rb, n * 4 + 3, none⟩ (.int .u64 x.b)) := by
  have hc : Ch [rb] w ((((w.setCell ⟨rb, n * 4, none⟩ (.int .u8 x.k)).setCell ⟨rb, n * 4 + 1, none⟩ (.int .u8 x.c)).setCell ⟨rb, n * 4 + 2, none⟩ (.int .u64 x.a)).setCell ⟨rb, n * 4 + 3, none⟩ (.int .u64 x.b)) := ((((Ch.refl _ _).setCell _ _ (.inl (by simp))).setCell _ _ (.inl (by simp))).setCell _ _ (.inl (by simp))).setCell _ _ (.inl (by simp))
  refine ⟨⟨by rw [List.length_set]; exact hc.heap h.hd (by simp; exact h.ne), ?_, h.ne, by rw [List.length_set]; exact h.le⟩, hc⟩
  have h1 := heap_set (i := n * 4 + 3) (heap_set (i := n * 4 + 2) (heap_set (i := n * 4 + 1) (heap_set (i := n * 4) h.bd (.int .u8 x.k)) (.int .u8 x.c)) (.int .u64 x.a)) (.int .u64 x.b)
  rw [h1, ← Cl.flat_set l n x hn]
  simp
theorem is_any (w : World) (rp rb : Nat) (l : List Cel) (i : Int) (h : RH w rp rb l) :
    Calls Tryd.prog 71 #[.pointer (some ⟨rp, 0, none⟩), .int .i64 i] w fun e w' => e = .returned (.bool (isC l i)) ∧ w' = w := by
  have p0 := cell_at (i := 0) h.hd
  simp only [List.getElem?_toArray, List.getElem?_cons_zero] at p0
  unfold isC
  clear h
  generalize l.length = n at *
  by_cases h0 : 0 ≤ i
  · by_cases h1 : i < (n : Int)
    · have e : (decide (0 ≤ i) && decide (i < (n : Int))) = true := by simp; omega
      rw [e]
      have h0' : ¬ i < 0 := by omega
      go_enter Tryd.func71, Tryd.ntmps71
      go_wp2_with fail
      go_ret
      exact ⟨rfl, rfl⟩
    · have e : (decide (0 ≤ i) && decide (i < (n : Int))) = false := by simp; omega
      rw [e]
      have h0' : ¬ i < 0 := by omega
      go_enter Tryd.func71, Tryd.ntmps71
      go_wp2_with fail
      go_ret
      exact ⟨rfl, rfl⟩
  · have e : (decide (0 ≤ i) && decide (i < (n : Int))) = false := by simp; omega
    rw [e]
    have h0' : i < 0 := by omega
    go_enter Tryd.func71, Tryd.ntmps71
    go_wp2_with fail
    go_ret
    exact ⟨rfl, rfl⟩
theorem used_eq {l : List Cel} {n : Nat} (hn : n < l.length) : used l n = ((l.getD n free).k != 0) := by
  unfold used isC
  rw [show (decide ((0 : Int) ≤ (n : Int)) && decide ((n : Int) < (l.length : Int))) = true by simp; omega, Bool.true_and, get_nat]
theorem used_any (w : World) (rp rb : Nat) (l : List Cel) (i : Int) (h : RH w rp rb l) :
    Calls Tryd.prog 79 #[.pointer (some ⟨rp, 0, none⟩), .int .i64 i] w fun e w' => e = .returned (.bool (used l i)) ∧ w' = w := by
  have H := is_any w rp rb l i h
  have p0 := cell_at (i := 0) h.hd
  simp only [List.getElem?_toArray, List.getElem?_cons_zero] at p0
  cases hi : isC l i
  · have e : used l i = false := by simp [used, hi]
    rw [e]
    rw [hi] at H
    clear h e hi
    generalize l.length = n at *
    go_enter Tryd.func79, Tryd.ntmps79
    go_wp2_with fail
    refine H.mono ?_
    rintro e w2 ⟨rfl, rfl⟩
    go_wp2_with fail
    go_ret
    exact ⟨rfl, rfl⟩
  · rw [hi] at H
    obtain ⟨n, rfl, hn⟩ := isC_nat hi
    obtain ⟨c0, _, _, _⟩ := h.at_ n hn
    rw [used_eq hn]
    have ltI : (n : Int) < l.length := by omega
    clear h hi
    generalize (l.getD n free).k = k at *
    generalize l.length = m at *
    go_enter Tryd.func79, Tryd.ntmps79
    go_wp2_with fail
    refine H.mono ?_
    rintro e w2 ⟨rfl, rfl⟩
    go_wp2_with fail
    go_ret
    exact ⟨rfl, rfl⟩
/-- What the callee's pointer is. -/
def fieldP (rb n f : Nat) : Value := .pointer (some ⟨rb, n * 4 + (2 + f), none⟩)
theorem field0_any (w : World) (rp rb : Nat) (l : List Cel) (i : Int) (h : RH w rp rb l) :
    Calls Tryd.prog 84 #[.pointer (some ⟨rp, 0, none⟩), .int .i64 i, .int .i64 0] w fun e w' => w' = w ∧ ((loadE l i 0 ≠ 0 ∧ e = .returned (.tuple #[.pointer none, .int .i64 (loadE l i 0)])) ∨ (∃ n : Nat, loadE l i 0 = 0 ∧ i = n ∧ n < l.length ∧ (l.getD n free).k ≠ 0 ∧ e = .returned (.tuple #[.pointer (some ⟨rb, n * 4 + 2, none⟩), .int .i64 0]))) := by
  have H := is_any w rp rb l i h
  have p0 := cell_at (i := 0) h.hd
  simp only [List.getElem?_toArray, List.getElem?_cons_zero] at p0
  cases hi : isC l i
  · have e : loadE l i 0 = 1 := by simp [loadE, hi]
    rw [e]
    rw [hi] at H
    clear h e hi
    generalize l.length = n at *
    go_enter Tryd.func84, Tryd.ntmps84
    go_wp2_with fail
    refine H.mono ?_
    rintro e w2 ⟨rfl, rfl⟩
    go_wp2_with fail
    go_ret2
    exact ⟨rfl, .inl ⟨by omega, rfl⟩⟩
  · have hii := hi
    rw [hi] at H
    obtain ⟨n, rfl, hn⟩ := isC_nat hi
    obtain ⟨c0, _, _, _⟩ := h.at_ n hn
    have hu := used_eq hn
    have ltI : (n : Int) < l.length := by omega
    have HN := Lib.hid hn
    by_cases hk : (l.getD n free).k = 0
    · have e : loadE l n 0 = 31 := by simp only [loadE, hii, hu, hk]; simp
      rw [e]
      rw [hk] at c0
      clear h hi hii hu e hk hn
      generalize l.length = m at *
      go_enter Tryd.func84, Tryd.ntmps84
      go_wp2_with fail
      refine H.mono ?_
      rintro e w2 ⟨rfl, rfl⟩
      go_wp2_with fail
      go_ret2
      exact ⟨rfl, .inl ⟨by omega, rfl⟩⟩
    · have hub : used l n = true := by rw [hu]; exact bne_iff_ne.2 hk
      have e : loadE l n 0 = 0 := by simp only [loadE, hii, hub]; simp
      rw [e]
      have HK := Lib.hid hk
      have hk' : ((l.getD n free).k == 0) = false := beq_eq_false_iff_ne.2 hk
      clear h hi hii hu hub e hk hn
      obtain ⟨k, hkk⟩ : ∃ k, k = (l.getD n free).k := ⟨_, rfl⟩
      rw [← hkk] at c0 hk'
      obtain ⟨m, hm⟩ : ∃ m, m = l.length := ⟨_, rfl⟩
      rw [← hm] at p0 ltI
      clear hkk hm
      go_enter Tryd.func84, Tryd.ntmps84
      go_wp2_with fail
      refine H.mono ?_
      rintro e w2 ⟨rfl, rfl⟩
      go_wp2_with fail
      go_ret2
      exact ⟨rfl, .inr ⟨n, by first | rfl | trivial, by first | rfl | trivial, HN.out, HK.out, rfl⟩⟩
theorem Load0_any (w : World) (rp rb : Nat) (l : List Cel) (i : Int) (h : RH w rp rb l) :
    Calls Tryd.prog 76 #[.pointer (some ⟨rp, 0, none⟩), .int .i64 i, .int .i64 0] w fun e w' => e = .returned (.tuple #[.int .u64 (loadW l i 0), .int .i64 (loadE l i 0)]) ∧ w' = w := by
  have H := field0_any w rp rb l i h
  have HH := Lib.hid h
  have HE : Hid (loadE l i 0 ≠ 0 → loadW l i 0 = 0) := Lib.hid (fun e => by unfold loadW; rw [if_neg e])
  have HW : Hid (∀ n : Nat, i = n → loadE l i 0 = 0 → loadW l i 0 = (l.getD n free).a) := Lib.hid (fun n hn e => by unfold loadW; rw [if_pos e, hn, get_nat]; simp)
  clear h
  generalize loadE l i 0 = le at *
  generalize loadW l i 0 = lw at *
  go_enter Tryd.func76, Tryd.ntmps76
  go_wp2_with fail
  refine H.mono ?_
  rintro e w2 ⟨rfl, ⟨hne, rfl⟩ | ⟨n, h0, rfl, hn, hk, rfl⟩⟩
  · have hne' : (le != 0) = true := by simpa using hne
    have hlw := HE.out hne
    subst hlw
    clear H hne
    go_wp2_with fail
    go_ret2
    exact ⟨rfl, rfl⟩
  · have hlw := HW.out n rfl h0
    subst h0
    obtain ⟨_, _, c2, c3⟩ := HH.out.at_ n hn
    rw [← hlw] at c2
    clear H hn hk hlw
    go_wp2_with fail
    go_ret2
    exact ⟨rfl, rfl⟩
theorem field1_any (w : World) (rp rb : Nat) (l : List Cel) (i : Int) (h : RH w rp rb l) :
    Calls Tryd.prog 84 #[.pointer (some ⟨rp, 0, none⟩), .int .i64 i, .int .i64 1] w fun e w' => w' = w ∧ ((loadE l i 1 ≠ 0 ∧ e = .returned (.tuple #[.pointer none, .int .i64 (loadE l i 1)])) ∨ (∃ n : Nat, loadE l i 1 = 0 ∧ i = n ∧ n < l.length ∧ (l.getD n free).k ≠ 0 ∧ e = .returned (.tuple #[.pointer (some ⟨rb, n * 4 + 3, none⟩), .int .i64 0]))) := by
  have H := is_any w rp rb l i h
  have p0 := cell_at (i := 0) h.hd
  simp only [List.getElem?_toArray, List.getElem?_cons_zero] at p0
  cases hi : isC l i
  · have e : loadE l i 1 = 1 := by simp [loadE, hi]
    rw [e]
    rw [hi] at H
    clear h e hi
    generalize l.length = n at *
    go_enter Tryd.func84, Tryd.ntmps84
    go_wp2_with fail
    refine H.mono ?_
    rintro e w2 ⟨rfl, rfl⟩
    go_wp2_with fail
    go_ret2
    exact ⟨rfl, .inl ⟨by omega, rfl⟩⟩
  · have hii := hi
    rw [hi] at H
    obtain ⟨n, rfl, hn⟩ := isC_nat hi
    obtain ⟨c0, _, _, _⟩ := h.at_ n hn
    have hu := used_eq hn
    have ltI : (n : Int) < l.length := by omega
    have HN := Lib.hid hn
    by_cases hk : (l.getD n free).k = 0
    · have e : loadE l n 1 = 31 := by simp only [loadE, hii, hu, hk]; simp
      rw [e]
      rw [hk] at c0
      clear h hi hii hu e hk hn
      generalize l.length = m at *
      go_enter Tryd.func84, Tryd.ntmps84
      go_wp2_with fail
      refine H.mono ?_
      rintro e w2 ⟨rfl, rfl⟩
      go_wp2_with fail
      go_ret2
      exact ⟨rfl, .inl ⟨by omega, rfl⟩⟩
    · have hub : used l n = true := by rw [hu]; exact bne_iff_ne.2 hk
      have e : loadE l n 1 = 0 := by simp only [loadE, hii, hub]; simp
      rw [e]
      have HK := Lib.hid hk
      have hk' : ((l.getD n free).k == 0) = false := beq_eq_false_iff_ne.2 hk
      clear h hi hii hu hub e hk hn
      obtain ⟨k, hkk⟩ : ∃ k, k = (l.getD n free).k := ⟨_, rfl⟩
      rw [← hkk] at c0 hk'
      obtain ⟨m, hm⟩ : ∃ m, m = l.length := ⟨_, rfl⟩
      rw [← hm] at p0 ltI
      clear hkk hm
      go_enter Tryd.func84, Tryd.ntmps84
      go_wp2_with fail
      refine H.mono ?_
      rintro e w2 ⟨rfl, rfl⟩
      go_wp2_with fail
      go_ret2
      exact ⟨rfl, .inr ⟨n, by first | rfl | trivial, by first | rfl | trivial, HN.out, HK.out, rfl⟩⟩
theorem Load1_any (w : World) (rp rb : Nat) (l : List Cel) (i : Int) (h : RH w rp rb l) :
    Calls Tryd.prog 76 #[.pointer (some ⟨rp, 0, none⟩), .int .i64 i, .int .i64 1] w fun e w' => e = .returned (.tuple #[.int .u64 (loadW l i 1), .int .i64 (loadE l i 1)]) ∧ w' = w := by
  have H := field1_any w rp rb l i h
  have HH := Lib.hid h
  have HE : Hid (loadE l i 1 ≠ 0 → loadW l i 1 = 0) := Lib.hid (fun e => by unfold loadW; rw [if_neg e])
  have HW : Hid (∀ n : Nat, i = n → loadE l i 1 = 0 → loadW l i 1 = (l.getD n free).b) := Lib.hid (fun n hn e => by unfold loadW; rw [if_pos e, hn, get_nat]; simp)
  clear h
  generalize loadE l i 1 = le at *
  generalize loadW l i 1 = lw at *
  go_enter Tryd.func76, Tryd.ntmps76
  go_wp2_with fail
  refine H.mono ?_
  rintro e w2 ⟨rfl, ⟨hne, rfl⟩ | ⟨n, h0, rfl, hn, hk, rfl⟩⟩
  · have hne' : (le != 0) = true := by simpa using hne
    have hlw := HE.out hne
    subst hlw
    clear H hne
    go_wp2_with fail
    go_ret2
    exact ⟨rfl, rfl⟩
  · have hlw := HW.out n rfl h0
    subst h0
    obtain ⟨_, _, c2, c3⟩ := HH.out.at_ n hn
    rw [← hlw] at c3
    clear H hn hk hlw
    go_wp2_with fail
    go_ret2
    exact ⟨rfl, rfl⟩
end Go.Proofs.YtefamhdkfdgdjaaDoor.R03
