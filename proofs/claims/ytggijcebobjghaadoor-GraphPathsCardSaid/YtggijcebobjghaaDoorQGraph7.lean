/-
  THE WALK of graph.far's closure: who names each.
-/
import Derived.Test.YtggijcebobjghaaDoorQGraph6
import Derived.Test.YtggijcebobjghaaDoorQJApp
import Derived.Deep.RegionLaw
import Derived.Deep.RegionHeld3
import Derived.BigRegion
set_option linter.unusedVariables false
set_option linter.unusedSimpArgs false
set_option maxRecDepth 100000
namespace Go.Proofs.YtggijcebobjghaaDoor.Gr
open Go.RowKit Go.Proofs.YtggijcebobjghaaDoor.Wd Go.Proofs.YtggijcebobjghaaDoor.Hp Go.Proofs.YtggijcebobjghaaDoor.Gp Go.Proofs.YtggijcebobjghaaDoor.Sm

/-- The lists that are being made: one for each cell, in blocks of its own each; so many names may come yet. -/
structure FR (pf fb pi n : Nat) (i : Int) (b : Nat) (w : World) (fr : List (List Nat)) (T : List Nat) : Prop where
  len : fr.length = n
  hpf : w.heap[pf]? = some (.cells #[.slice (some ⟨fb, 0, none⟩) n n] 30 (0, 0))
  hpi : w.heap[pi]? = some (.cells #[.int .i64 i] 3 (0, 0))
  ne : pf ≠ fb ∧ pi ≠ fb ∧ pi ≠ pf
  room : ∀ c, c < n → (fr.getD c []).length + b ≤ 4000000
  ex : ∃ (V : Nat → Value) (Q : Nat → List Nat), T = fb :: (List.range n).flatMap Q ∧ w.heap[fb]? = some (.cells ((List.range n).map V).toArray 59 (0, 0)) ∧ (∀ c, c < n → Row w 3 1 (V c) (Q c) (fr.getD c []).length (nv (fr.getD c []))) ∧
    (∀ c, c < n → ∀ q ∈ Q c, (q ≠ pf ∧ q ≠ fb ∧ q ≠ pi) ∧ q < w.heap.size) ∧ ∀ c c', c < n → c' < n → c ≠ c' → ∀ q ∈ Q c, q ∉ Q c'
theorem FR.mono {pf fb pi n b : Nat} {i : Int} {w : World} {fr : List (List Nat)} {T : List Nat} (h : FR pf fb pi n i (b + 1) w fr T) : FR pf fb pi n i b w fr T :=
  ⟨h.len, h.hpf, h.hpi, h.ne, fun c hc => by have := h.room c hc; omega, h.ex⟩
theorem FR.ch {pf fb pi n b : Nat} {i : Int} {w w' : World} {fr : List (List Nat)} {T : List Nat} (h : FR pf fb pi n i b w fr T) (hc : Ch [] w w') : FR pf fb pi n i b w' fr T := by
  obtain ⟨a1, a2, a3, a4, a5, V, Q, b1, b2, b3, b4, b5⟩ := h
  exact ⟨a1, hc.heap a2 (by simp), hc.heap a3 (by simp), a4, a5, V, Q, b1, hc.heap b2 (by simp), fun c h => (b3 c h).ch hc (by simp), fun c h q hq => ⟨(b4 c h q hq).1, Nat.lt_of_lt_of_le (b4 c h q hq).2 hc.size⟩, b5⟩
def push (i : Nat) (fr : List (List Nat)) (c : Nat) : List (List Nat) := fr.set c (fr.getD c [] ++ [i])
theorem push_at (i : Nat) (fr : List (List Nat)) (c c' : Nat) (hc : c < fr.length) : (push i fr c).getD c' [] = if c' = c then fr.getD c [] ++ [i] else fr.getD c' [] := by
  unfold push
  by_cases e : c' = c
  · subst e; simp [List.getD_eq_getElem?_getD, hc]
  · simp only [List.getD_eq_getElem?_getD, List.getElem?_set_ne (Ne.symm e), if_neg e]
theorem range_get (V : Nat → Value) (n c : Nat) (h : c < n) : ((List.range n).map V)[c]? = some (V c) := by simp [h]
theorem range_set (V : Nat → Value) (n c : Nat) (v : Value) : ((List.range n).map V).toArray.setIfInBounds c v = ((List.range n).map (fun j => if j = c then v else V j)).toArray := by
  apply Array.ext_getElem?
  intro j
  rw [Array.getElem?_setIfInBounds]
  by_cases hj : j < n
  · by_cases e : c = j
    · subst e; simp [hj]
    · simp [hj, e, Ne.symm e]
  · by_cases e : c = j
    · subst e; simp [hj]
    · simp [hj, e]
set_option maxHeartbeats 4000000 in
theorem far1_steps (pf fb pi n i : Nat) (hn : n ≤ 1000000) : StepsB 81 pf pi (FR pf fb pi n (i : Int)) (push i) (fun c => c < n) := by
  intro b w s T c hI hc
  obtain ⟨hlen, hpf, hpi, ⟨d1, d2, d3⟩, hso, V, Q, hT, hfb, hrow, hq, hdis⟩ := hI
  have h0 := hso c hc
  have R0 := hrow c hc
  obtain ⟨ao, cap, hv, r1, r2, r3⟩ := R0.rd
  have a1 := cell_at (i := 0) hpf
  simp only [List.getElem?_toArray, List.getElem?_cons_zero] at a1
  have a2 := cell_at (i := 0) hpi
  simp only [List.getElem?_toArray, List.getElem?_cons_zero] at a2
  have a3 := cell_at (i := c) hfb
  rw [List.getElem?_toArray, range_get V n c hc, hv] at a3
  have f3 := free_at (i := c) hfb
  rw [hv] at R0
  have C1 := (Ch.refl [] w).drew.alloc (.cells #[.int .i64 i] 3)
  have hlw : w.drew.heap.size = w.heap.size := rfl
  have HR := Lib.hid (R0.ch C1 (by simp))
  have HN := Lib.hid (newL (w := w.drew) (b := w.heap.size) rfl [.int .i64 i] 3)
  have HPF := Lib.hid (C1.heap hpf (by simp))
  have HPI := Lib.hid (C1.heap hpi (by simp))
  have HFB := Lib.hid (C1.heap hfb (by simp))
  have HQC := Lib.hid (hq c hc)
  have FIN : Hid (∀ (w1 : World) (qs' : List Nat) (ao4 : Option Addr) (cap4 : Nat), w1.heap[pf]? = some (.cells #[.slice (some ⟨fb, 0, none⟩) n n] 30 (0, 0)) → w1.heap[pi]? = some (.cells #[.int .i64 i] 3 (0, 0)) → w1.heap[fb]? = some (.cells ((List.range n).map V).toArray 59 (0, 0)) →
      Row w1 3 1 (.slice ao4 ((s.getD c []).length + 1) cap4) qs' ((s.getD c []).length + 1) (nv (s.getD c []) ++ [.int .i64 i]) → Ch (Q c) (w.drew.alloc (.cells #[.int .i64 i] 3)) w1 → (qs' = Q c ∨ ∃ q', qs' = [q'] ∧ (w.drew.alloc (.cells #[.int .i64 i] 3)).heap.size ≤ q' ∧ q' < w1.heap.size) →
      ∃ T', FR pf fb pi n i b (w1.setCell ⟨fb, c, none⟩ (.slice ao4 ((s.getD c []).length + 1) cap4)) (push i s c) T' ∧ Ch T w (w1.setCell ⟨fb, c, none⟩ (.slice ao4 ((s.getD c []).length + 1) cap4)) ∧ ∀ t ∈ T', t ∈ T ∨ w.heap.size ≤ t) := Lib.hid (by
    intro w1 qs' ao4 cap4 p1 p2 p3 hr4 hc4 hq4
    have hWs : (w.drew.alloc (.cells #[.int .i64 i] 3)).heap.size = w.heap.size + 1 := by simp [World.alloc]
    have hW1 : w.heap.size + 1 ≤ w1.heap.size := by have := hc4.size; omega
    have l1 := lt_of hpf
    have l2 := lt_of hpi
    have l3 := lt_of hfb
    have hnew : ∀ q ∈ qs', q ∈ Q c ∨ (w.heap.size ≤ q ∧ q < w1.heap.size) := fun q hq' => by
      rcases hq4 with e | ⟨q', e, h3, h4⟩
      · rw [e] at hq'; exact .inl hq'
      · rw [e] at hq'; simp at hq'; subst hq'; exact .inr ⟨by omega, h4⟩
    have hqf : ∀ q ∈ qs', (q ≠ pf ∧ q ≠ fb ∧ q ≠ pi) ∧ q < w1.heap.size := fun q hq' => by
      rcases hnew q hq' with h | h
      · have := hq c hc q h; exact ⟨this.1, by omega⟩
      · exact ⟨by omega, h.2⟩
    have hss : (w1.setCell ⟨fb, c, none⟩ (.slice ao4 ((s.getD c []).length + 1) cap4)).heap.size = w1.heap.size := by simp [World.setCell]
    have C2 : Ch (Q c) w w1 := (C1.mono (by simp)).trans' hc4
    have hT' : ∀ x ∈ Q c, x ∈ T := fun x hx => by
      rw [hT]; simp only [List.mem_cons, List.mem_flatMap, List.mem_range]
      exact .inr ⟨c, hc, hx⟩
    refine ⟨fb :: (List.range n).flatMap (fun j => if j = c then qs' else Q j), ⟨by simpa [push] using hlen, (heap_set_ne d1).trans p1, (heap_set_ne d2).trans p2, ⟨d1, d2, d3⟩, fun j hj => ?_, fun j => if j = c then .slice ao4 ((s.getD c []).length + 1) cap4 else V j, fun j => if j = c then qs' else Q j, rfl, ?_, fun j hj => ?_, fun j hj q hq' => ?_, fun j j' hj hj' hne q hq' => ?_⟩, ?_, fun t ht => ?_⟩
    · rw [push_at _ _ _ _ (by omega)]
      split
      · have := hso c hc; rw [List.length_append, List.length_singleton]; omega
      · have := hso j hj; omega
    · rw [← range_set]; exact heap_set p3 _
    · rw [push_at _ _ _ _ (by omega)]
      by_cases e : j = c
      · subst e
        simp only [if_true]
        rw [nv_snoc, List.length_append]
        exact hr4.keep (fun q hq' o ho => (heap_set_ne (hqf q hq').1.2.1).trans ho)
      · simp only [if_neg e]
        exact ((hrow j hj).ch C2 (fun q hq' => hdis j c hj hc e q hq')).keep (fun q hq' o ho => (heap_set_ne (hq j hj q hq').1.2.1).trans ho)
    · rw [hss]
      by_cases e : j = c
      · subst e; simp only [if_true] at hq'; exact hqf q hq'
      · simp only [if_neg e] at hq'; have := hq j hj q hq'; exact ⟨this.1, by omega⟩
    · by_cases e : j = c
      · subst e
        simp only [if_true] at hq'
        simp only [if_neg (Ne.symm hne)]
        rcases hnew q hq' with h | h
        · exact hdis j j' hj hj' hne q h
        · intro hm; have := (hq j' hj' q hm).2; omega
      · simp only [if_neg e] at hq'
        by_cases e' : j' = c
        · subst e'
          simp only [if_true]
          intro hm
          rcases hnew q hm with h | h
          · exact hdis j j' hj hj' hne q hq' h
          · have := (hq j hj q hq').2; omega
        · simp only [if_neg e']; exact hdis j j' hj hj' hne q hq'
    · exact (C2.mono hT').setCell _ _ (.inl (by rw [hT]; simp))
    · simp only [List.mem_cons, List.mem_flatMap, List.mem_range] at ht
      rcases ht with rfl | ⟨j, hj, hm⟩
      · left; rw [hT]; simp
      · by_cases e : j = c
        · subst e
          simp only [if_true] at hm
          rcases hnew t hm with h | h
          · exact .inl (hT' _ h)
          · exact .inr h.1
        · simp only [if_neg e] at hm
          left; rw [hT]; simp only [List.mem_cons, List.mem_flatMap, List.mem_range]
          exact .inr ⟨j, hj, hm⟩)
  have HC1 := Lib.hid C1
  have HK1 : Hid (∀ W : World, W.heap[pf]? = some (.cells #[.slice (some ⟨fb, 0, none⟩) n n] 30 (0, 0)) → W.cell? ⟨pf, 0, none⟩ = some (.slice (some ⟨fb, 0, none⟩) n n)) := Lib.hid (fun W h => by rw [cell_at h]; rfl)
  have HK2 : Hid (∀ W : World, W.heap[pi]? = some (.cells #[.int .i64 i] 3 (0, 0)) → W.cell? ⟨pi, 0, none⟩ = some (.int .i64 i)) := Lib.hid (fun W h => by rw [cell_at h]; rfl)
  have HK3 : Hid (∀ W : World, W.heap[fb]? = some (.cells ((List.range n).map V).toArray 59 (0, 0)) → W.cell? ⟨fb, c, none⟩ = some (.slice ao (s.getD c []).length cap)) := Lib.hid (fun W h => by rw [cell_at h, List.getElem?_toArray, range_get V n c hc, hv])
  have HV := Lib.hid hv
  obtain ⟨i0, hi, he⟩ := Option.map_eq_some_iff.1 infoInt
  simp only [Prod.mk.injEq] at he
  obtain ⟨hz0, hz1, hz2⟩ := he
  have ltI : (c : Int) < n := by omega
  have ltJ : (0 : Int) ≤ c := by omega
  have hlt0 : (s.getD c []).length ≤ 4000000 := by omega
  clear hlen hso hT hrow hq hdis r3 C1 hpf hpi hfb R0 h0 hlw
  generalize (s.getD c []).length = len at *
  generalize s.getD c [] = row at *
  go_enter Tryd.func81, Tryd.ntmps81
  go_wp2_with fail
  have a4 : (w.drew.alloc (.cells #[.int .i64 i] 3)).cell? ⟨fb, c, none⟩ = some (.slice ao len cap) := HK3.out _ HFB.out
  have a6 : (w.alloc (.cells #[.int .i64 i] 3)).drew.cell? ⟨fb, c, none⟩ = some (.slice ao len cap) := a4
  have a5 : w.drew.cell? ⟨fb, c, none⟩ = some (.slice ao len cap) := a3
  have e1 : w.drew.cell? ⟨pf, 0, none⟩ = some (.slice (some ⟨fb, 0, none⟩) n n) := a1
  have e2 : (w.alloc (.cells #[.int .i64 i] 3)).drew.cell? ⟨pf, 0, none⟩ = some (.slice (some ⟨fb, 0, none⟩) n n) := HK1.out _ HPF.out
  have e3 : (w.drew.alloc (.cells #[.int .i64 i] 3)).cell? ⟨pf, 0, none⟩ = some (.slice (some ⟨fb, 0, none⟩) n n) := e2
  go_region_law
    ((refine step_append_row (by rfl) _ _ 59 (by rfl) 3 i0 (.int .i64 0) 1 8 Tryd.underlying59 hi hz0 hz1 hz2 rfl (by decide) (by rfl) HR.out ⟨w.heap.size, 0, none⟩ 1 1 [.int .i64 i] (by rfl) rfl HN.out (one1 _ _) (by unfold maxLen; omega) (by omega) ?_
      intro v' w1 qs' hr4 hc4 hq4
      have p1 := hc4.heap HPF.out (fun hm => (HQC.out _ hm).1.1 rfl)
      have p2 := hc4.heap HPI.out (fun hm => (HQC.out _ hm).1.2.2 rfl)
      have p3 := hc4.heap HFB.out (fun hm => (HQC.out _ hm).1.2.1 rfl)
      have k1 := HK1.out _ p1
      have k2 := HK2.out _ p2
      have k3 := HK3.out _ p3
      have k5 := fun v => HK1.out (w1.setCell ⟨fb, c, none⟩ v) ((heap_set_ne d1).trans p1)
      have k6 := fun v => HK2.out (w1.setCell ⟨fb, c, none⟩ v) ((heap_set_ne d2).trans p2)
      have f4 := free_at (i := c) p3
      obtain ⟨ao4, cap4, rfl, _⟩ := hr4.rd
      have P1 := Lib.hid p1
      have P2 := Lib.hid p2
      have P3 := Lib.hid p3
      have HR4 := Lib.hid hr4
      have HC4 := Lib.hid hc4
      have HQ4 := Lib.hid hq4
      clear hr4 hc4 hq4 p1 p2 p3))
  all_goals
    have Z := Lib.hid (FIN.out _ _ _ _ P1.out P2.out P3.out HR4.out HC4.out HQ4.out)
    go_wp2_with fail
    go_end0
    exact ⟨rfl, Z.out⟩
end Go.Proofs.YtggijcebobjghaaDoor.Gr
