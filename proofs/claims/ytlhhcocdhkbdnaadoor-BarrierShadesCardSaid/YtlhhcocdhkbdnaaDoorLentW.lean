/-
  THE WALKS of LentWords, WholeWords, SpoilWords.
-/
import Derived.Test.YtlhhcocdhkbdnaaDoorLent
import Derived.Test.YtlhhcocdhkbdnaaDoorGraph5
set_option linter.unusedVariables false
set_option linter.unusedSimpArgs false
set_option maxRecDepth 100000
namespace Go.Proofs.YtlhhcocdhkbdnaaDoor.Gr
open Go.RowKit Go.Proofs.YtlhhcocdhkbdnaaDoor.Wd Go.Proofs.YtlhhcocdhkbdnaaDoor.Hp Go.Proofs.YtlhhcocdhkbdnaaDoor.Gp Go.Proofs.YtlhhcocdhkbdnaaDoor.Sm
theorem run_make_words (w : World) (n : Nat) (h : n ≤ 1000000) : (Instr.makeSlice 62 (.int .i64 0) (.int .i64 ((n : Int) + 2))).run Tryd.prog w = .ok (.slice (some ⟨w.heap.size, 0, none⟩) 0 (n + 2)) (w.alloc (.cells (ints .u64 (List.replicate (n + 2) 0)).toArray 24)) := by
  obtain ⟨i, hi, he⟩ := Option.map_eq_some_iff.1 infoWord
  simp only [Prod.mk.injEq] at he
  obtain ⟨e1, e2, e3⟩ := he
  have := run_make (P := Tryd.prog) w 62 24 i _ Tryd.underlying62 hi e1 .i64 .i64 0 ((n : Int) + 2) (by omega) (by omega) (by rw [e3]; omega) (by omega)
  rw [this, e2]
  have e4 : (Value.int .u64 0).cells = #[.int .u64 0] := rfl
  rw [e4, Nat.mul_one, made_one, show ((n : Int) + 2).toNat = n + 2 by omega, show ints .u64 (List.replicate (n + 2) 0) = List.replicate (n + 2) (.int .u64 0) by simp [ints]]
  rfl
/-- A list of n words in a block of its own, with two marks behind it. -/
def LentWs (w : World) (q : Nat) (ws : List Int) : Prop := w.heap[q]? = some (.cells (ints .u64 (ws ++ [77777771, 77777772])).toArray 24 (0, 0))
set_option maxHeartbeats 1000000 in
theorem LentWords_any (w : World) (ao : Option Addr) (n cn : Nat) (ws : List Int) (hn : n ≤ 1000000) (hr : RdF w ao n (ints .u64 ws) []) :
    Calls Tryd.prog 61 #[.slice ao n cn] w fun e w' => ∃ q, e = .returned (.slice (some ⟨q, 0, none⟩) n (n + 2)) ∧ LentWs w' q ws ∧ Ch [] w w' ∧ w.heap.size ≤ q := by
  have hl : ws.length = n := by simpa [ints] using hr.1
  have hmk : ∀ w : World, _ := fun w => run_make_words w n hn
  obtain ⟨i0, hi, he⟩ := Option.map_eq_some_iff.1 infoWord
  simp only [Prod.mk.injEq] at he
  obtain ⟨hz0, hz1, hz2⟩ := he
  have HR := Lib.hid hr
  have HL := Lib.hid hl
  have HB0 := Lib.hid (heap_new w (.cells (ints .u64 (List.replicate (n + 2) 0)).toArray 24))
  have HC0 := Lib.hid ((Ch.refl [] w).alloc (.cells (ints .u64 (List.replicate (n + 2) 0)).toArray 24))
  clear hr hl
  by_cases h0 : n = 0
  · subst h0
    obtain rfl : ws = [] := List.eq_nil_of_length_eq_zero HL.out
    have hmk0 : ∀ w : World, (Instr.makeSlice 62 (.int .i64 0) (.int .i64 2)).run Tryd.prog w = .ok (.slice (some ⟨w.heap.size, 0, none⟩) 0 2) (w.alloc (.cells (ints .u64 (List.replicate (0 + 2) 0)).toArray 24)) := fun w => hmk w
    have HB1 := Lib.hid (heap_old (o' := .cells #[.int .u64 77777771, .int .u64 77777772] 24) HB0.out)
    have HN1 := Lib.hid (newL (w := w.alloc (.cells (ints .u64 (List.replicate (0 + 2) 0)).toArray 24)) (b := w.heap.size + 1) (by simp) [.int .u64 77777771, .int .u64 77777772] 24)
    clear hmk
    go_enter Tryd.func61, Tryd.ntmps61
    go_wp2_with (at_builtin; first | (refine wpList_append_none _ rfl _ _ 62 rfl 24 i0 Tryd.underlying62 hi w.heap.size 0 2 rfl cn ao rfl (by omega) ?_) | (go_loud (refine wpList_append_room _ rfl _ _ 62 rfl 24 i0 1 Tryd.underlying62 hi hz1 w.heap.size 0 2 rfl _ HB1.out (by simp [ints]) ⟨w.heap.size + 1, 0, none⟩ 2 2 [.int .u64 77777771, .int .u64 77777772] rfl rfl HN1.out (one2 _ _ _ _) (by omega) ?_)))
    intro w2 arr2 k1 k2 k4 k5
    have K := Lib.hid (And.intro k1 (And.intro k2 (And.intro k4 k5)))
    clear k1 k2 k4 k5
    go_wp2_with fail
    go_ret
    obtain ⟨k1, k2, k4, k5⟩ := K.out
    refine ⟨w.heap.size, rfl, ?_, ?_, Nat.le_refl _⟩
    · unfold LentWs
      rw [k1]
      congr 2
      apply Array.ext_getElem?
      intro j
      have hsz2 : arr2.size = 2 := by rw [k2]; rfl
      rcases Nat.lt_or_ge j 2 with h | h
      · rw [k4 j h]
        rcases (by omega : j = 0 ∨ j = 1) with rfl | rfl <;> rfl
      · rw [Array.getElem?_eq_none (by omega), Array.getElem?_eq_none (by simp [ints]; omega)]
    · exact (((Ch.refl [] w).alloc _).alloc _).trans k5 (fun x hx => by simp at hx; subst hx; exact .inr (Nat.le_refl _))
  · obtain ⟨b, off, rfl, hbn, hj⟩ := HR.out.2.resolve_left h0
    have HSRC : Hid (∀ (j : Nat) (u : Value), (ints .u64 ws)[j]? = some u → (w.alloc (.cells (ints .u64 (List.replicate (n + 2) 0)).toArray 24)).cell? ((⟨b, off, none⟩ : Addr).add j) = some u) := Lib.hid (fun j u hu => by
      have hlt : j < n := by
        rcases Nat.lt_or_ge j n with h | h
        · exact h
        · rw [List.getElem?_eq_none (by rw [HR.out.1]; exact h)] at hu; cases hu
      rw [Addr.add_lit]
      exact HC0.out.cell ((hj j hlt).trans hu) (by simp))
    have H1C : Hid (∀ u ∈ ints .u64 ws, u.oneCell' = true) := Lib.hid (fun u hu => by simp [ints] at hu; obtain ⟨v, _, rfl⟩ := hu; rfl)
    have HLEN : Hid ((ints .u64 ws).length = n * 1) := Lib.hid (by rw [HR.out.1, Nat.mul_one])
    clear hj hbn
    go_enter Tryd.func61, Tryd.ntmps61
    go_wp2_with (at_builtin; go_loud (refine wpList_append_room _ rfl _ _ 62 rfl 24 i0 1 Tryd.underlying62 hi hz1 w.heap.size 0 (n + 2) rfl _ HB0.out (by simp [ints]) ⟨b, off, none⟩ n cn (ints .u64 ws) rfl HLEN.out HSRC.out H1C.out (by omega) ?_))
    intro w1 arr1 g1 g2 g4 g5
    have M1 : Ch [] w1 (w1.alloc (.cells #[.int .u64 77777771, .int .u64 77777772] 24)) := (Ch.refl _ _).alloc _
    have HB1 := Lib.hid (M1.heap g1 (by simp))
    have hs1 : arr1.size = (n + 2) * 1 := by rw [g2]; simp [ints]
    have HS1 := Lib.hid hs1
    have HN1 := Lib.hid (newL (w := w1) (b := w1.heap.size) rfl [.int .u64 77777771, .int .u64 77777772] 24)
    have HCW : Hid (Ch [] w w1) := Lib.hid (HC0.out.trans g5 (fun x hx => by simp at hx; subst hx; exact .inr (Nat.le_refl _)))
    have G4 := Lib.hid g4
    clear g1 g2 g4 g5 hs1 M1
    go_wp2_with (at_builtin; go_loud (refine wpList_append_room _ rfl _ _ 62 rfl 24 i0 1 Tryd.underlying62 hi hz1 w.heap.size n (n + 2) rfl _ HB1.out HS1.out ⟨w1.heap.size, 0, none⟩ 2 2 [.int .u64 77777771, .int .u64 77777772] rfl rfl HN1.out (one2 _ _ _ _) (by omega) ?_))
    intro w2 arr2 k1 k2 k3 k4 k5
    have K := Lib.hid (And.intro k1 (And.intro k2 (And.intro k3 (And.intro k4 k5))))
    clear k1 k2 k3 k4 k5
    go_wp2_with fail
    go_ret
    obtain ⟨k1, k2, k3, k4, k5⟩ := K.out
    refine ⟨w.heap.size, rfl, ?_, ?_, Nat.le_refl _⟩
    · unfold LentWs
      rw [k1]
      congr 2
      apply Array.ext_getElem?
      intro j
      have hsz2 : arr2.size = n + 2 := by rw [k2, HS1.out]; omega
      have hll : (ints .u64 ws).length = n := HR.out.1
      rw [show ints .u64 (ws ++ [77777771, 77777772]) = ints .u64 ws ++ [.int .u64 77777771, .int .u64 77777772] by simp [ints]]
      have e : ∀ L : List Value, L.toArray[j]? = L[j]? := fun L => by simp
      refine Eq.trans ?_ (e _).symm
      rcases Nat.lt_or_ge j n with h | h
      · rw [k3 j (by omega), G4.out j h, List.getElem?_append_left (by omega)]
      · rcases Nat.lt_or_ge j (n + 2) with h2 | h2
        · have := k4 (j - n) (by omega)
          rw [show n + (j - n) = j by omega] at this
          rw [this, List.getElem?_append_right (by omega), hll]
        · rw [Array.getElem?_eq_none (by omega), List.getElem?_eq_none (by rw [List.length_append, hll]; simp; omega)]
    · exact (HCW.out.alloc _).trans k5 (fun x hx => by simp at hx; subst hx; exact .inr (Nat.le_refl _))
theorem LentWs.rd {w : World} {q : Nat} {ws : List Int} (h : LentWs w q ws) : Rd w (some ⟨q, 0, none⟩) ws.length (ints .u64 ws) :=
  ⟨by simp [ints], .inr ⟨q, 0, rfl, fun j hj => by
    rw [Nat.zero_add, cell_at h]
    simp only [ints, List.map_append, List.getElem?_toArray]
    rw [List.getElem?_append_left (by simpa using hj)]⟩⟩
set_option maxHeartbeats 1000000 in
theorem WholeWords_any (w : World) (q : Nat) (bo : Option Addr) (n cm : Nat) (ws : List Int) (hn : n ≤ 1000000) (hcm : n ≤ cm) (hcx : cm ≤ maxLen) (hl : ws.length = n) (h : LentWs w q ws) (hy : Rd w bo n (ints .u64 ws)) :
    Calls Tryd.prog 66 #[.slice (some ⟨q, 0, none⟩) n (n + 2), .slice bo n cm] w fun e w' => e = .returned (.bool true) ∧ ∃ d, w' = w.drewN d := by
  have hrd := h.rd
  rw [hl] at hrd
  have SW := SameWords_any w (some ⟨q, 0, none⟩) bo n (n + 2) n cm ws ws (by omega) (by unfold maxLen; omega) hcm hcx hrd hy
  rw [show decide (ws = ws) = true by simp] at SW
  have m1 : w.cell? ⟨q, n, none⟩ = some (.int .u64 77777771) := by rw [cell_at h]; simp [ints, ← hl]
  have m2 : w.cell? ⟨q, n + 1, none⟩ = some (.int .u64 77777772) := by rw [cell_at h]; simp [ints, ← hl]
  clear hrd hl h hy
  go_enter Tryd.func66, Tryd.ntmps66
  go_wp2_with fail
  refine SW.mono ?_
  rintro e w2 ⟨rfl, d, rfl⟩
  go_wp2_with fail
  go_ret
  exact ⟨rfl, d, rfl⟩
end Go.Proofs.YtlhhcocdhkbdnaaDoor.Gr
