/-
  THE WALKS of LentCells, WholeCells, SpoilCells.
-/
import Derived.Test.YtlhhcocdhkbdnaaDoorLentW
set_option linter.unusedVariables false
set_option linter.unusedSimpArgs false
set_option maxRecDepth 100000
namespace Go.Proofs.YtlhhcocdhkbdnaaDoor.Gr
open Go.RowKit Go.Proofs.YtlhhcocdhkbdnaaDoor.Wd Go.Proofs.YtlhhcocdhkbdnaaDoor.Hp Go.Proofs.YtlhhcocdhkbdnaaDoor.Gp Go.Proofs.YtlhhcocdhkbdnaaDoor.Sm
theorem made_cells (n : Nat) : madeCells #[.int .u8 0, .int .u8 0, .int .u64 0, .int .u64 0] (n * 4) = (flat (List.replicate n z)).toArray := by
  apply Array.ext_getElem?
  intro i
  by_cases h : i < n * 4
  · have hq : i = i / 4 * 4 + i % 4 := by omega
    have e1 : (flat (List.replicate n z)).toArray[i]? = (celV z)[i % 4]? := by
      have := flat_get (List.replicate n z) (i / 4) (i % 4) (by simp; omega) (by omega)
      rw [← hq] at this
      rw [List.getElem?_toArray, this]
      have e3 : (List.replicate n z).getD (i / 4) z = z := by simp [List.getD, List.getElem?_replicate]; split <;> rfl
      rw [e3]
    rw [e1]
    have e2 : (madeCells #[.int .u8 0, .int .u8 0, .int .u64 0, .int .u64 0] (n * 4))[i]? = some ((#[.int .u8 0, .int .u8 0, .int .u64 0, .int .u64 0] : Array Value)[i % 4]!) := by simp [madeCells, h]
    rw [e2]
    have : i % 4 = 0 ∨ i % 4 = 1 ∨ i % 4 = 2 ∨ i % 4 = 3 := by omega
    rcases this with h | h | h | h <;> rw [h] <;> rfl
  · rw [Array.getElem?_eq_none (by simp [madeCells]; omega), Array.getElem?_eq_none (by simp [flat_len]; omega)]
theorem run_make_cells (w : World) (n : Nat) (h : n ≤ 1000000) : (Instr.makeSlice 25 (.int .i64 0) (.int .i64 ((n : Int) + 2))).run Tryd.prog w = .ok (.slice (some ⟨w.heap.size, 0, none⟩) 0 (n + 2)) (w.alloc (.cells (flat (List.replicate (n + 2) z)).toArray 58)) := by
  obtain ⟨i, hi, he⟩ := Option.map_eq_some_iff.1 infoCell
  simp only [Prod.mk.injEq] at he
  obtain ⟨e1, e2, e3⟩ := he
  have := run_make (P := Tryd.prog) w 25 58 i _ Tryd.underlying25 hi e1 .i64 .i64 0 ((n : Int) + 2) (by omega) (by omega) (by rw [e3]; omega) (by omega)
  rw [this, e2]
  have e4 : (Value.agg #[.int .u8 0, .int .u8 0, .int .u64 0, .int .u64 0]).cells = #[.int .u8 0, .int .u8 0, .int .u64 0, .int .u64 0] := rfl
  rw [e4, show ((n : Int) + 2).toNat = n + 2 by omega, made_cells]
  rfl
/-- A list of n cells in a block of its own, with two marks behind it. -/
def mk1 : Cel := ⟨0, 0, 77777771, 0⟩
def mk2 : Cel := ⟨0, 0, 77777772, 0⟩
def LentCs (w : World) (q : Nat) (hs : List Cel) : Prop := w.heap[q]? = some (.cells (flat (hs ++ [mk1, mk2])).toArray 58 (0, 0))
def marks : List Value := [.int .u8 0, .int .u8 0, .int .u64 77777771, .int .u64 0, .int .u8 0, .int .u8 0, .int .u64 77777772, .int .u64 0]
theorem marks_flat : flat [mk1, mk2] = marks := rfl
theorem marks_one : ∀ u ∈ marks, u.oneCell' = true := by intro u hu; unfold marks at hu; simp only [List.mem_cons, List.not_mem_nil, or_false] at hu; rcases hu with h | h | h | h | h | h | h | h <;> subst h <;> rfl
theorem flat_one (hs : List Cel) : ∀ u ∈ flat hs, u.oneCell' = true := by
  intro u hu
  simp only [flat, List.mem_flatMap] at hu
  obtain ⟨c, _, hu⟩ := hu
  simp [celV] at hu
  rcases hu with rfl | rfl | rfl | rfl <;> rfl
set_option maxHeartbeats 1000000 in
theorem LentCells_any (w : World) (ao : Option Addr) (n cn : Nat) (hs : List Cel) (hn : n ≤ 1000000) (hl : hs.length = n) (hr : RdF w ao (n * 4) (flat hs) []) :
    Calls Tryd.prog 12 #[.slice ao n cn] w fun e w' => ∃ q, e = .returned (.slice (some ⟨q, 0, none⟩) n (n + 2)) ∧ LentCs w' q hs ∧ Ch [] w w' ∧ w.heap.size ≤ q := by
  have hmk : ∀ w : World, _ := fun w => run_make_cells w n hn
  obtain ⟨i0, hi, he⟩ := Option.map_eq_some_iff.1 infoCell
  simp only [Prod.mk.injEq] at he
  obtain ⟨hz0, hz1, hz2⟩ := he
  have HR := Lib.hid hr
  have HL := Lib.hid hl
  have HB0 := Lib.hid (heap_new w (.cells (flat (List.replicate (n + 2) z)).toArray 58))
  have HC0 := Lib.hid ((Ch.refl [] w).alloc (.cells (flat (List.replicate (n + 2) z)).toArray 58))
  clear hr hl
  by_cases h0 : n = 0
  · subst h0
    obtain rfl : hs = [] := List.eq_nil_of_length_eq_zero HL.out
    have hmk0 : ∀ w : World, (Instr.makeSlice 25 (.int .i64 0) (.int .i64 2)).run Tryd.prog w = .ok (.slice (some ⟨w.heap.size, 0, none⟩) 0 2) (w.alloc (.cells (flat (List.replicate (0 + 2) z)).toArray 58)) := fun w => hmk w
    have HB1 := Lib.hid (heap_old (o' := .cells marks.toArray 58) HB0.out)
    have HN1 := Lib.hid (newL (w := w.alloc (.cells (flat (List.replicate (0 + 2) z)).toArray 58)) (b := w.heap.size + 1) (by simp) marks 58)
    clear hmk
    go_enter Tryd.func12, Tryd.ntmps12
    go_wp2_with (at_builtin; first | (refine wpList_append_none _ rfl _ _ 25 rfl 58 i0 Tryd.underlying25 hi w.heap.size 0 2 rfl cn ao rfl (by omega) ?_) | (go_loud (refine wpList_append_room _ rfl _ _ 25 rfl 58 i0 4 Tryd.underlying25 hi hz1 w.heap.size 0 2 rfl _ HB1.out (by simp [flat_len]) ⟨w.heap.size + 1, 0, none⟩ 2 2 marks rfl rfl HN1.out marks_one (by omega) ?_)))
    intro w2 arr2 k1 k2 k4 k5
    have K := Lib.hid (And.intro k1 (And.intro k2 (And.intro k4 k5)))
    clear k1 k2 k4 k5
    go_wp2_with fail
    go_ret
    obtain ⟨k1, k2, k4, k5⟩ := K.out
    refine ⟨w.heap.size, rfl, ?_, ?_, Nat.le_refl _⟩
    · unfold LentCs
      rw [k1]
      congr 2
      apply Array.ext_getElem?
      intro j
      have hsz2 : arr2.size = 8 := by rw [k2]; simp [flat_len]
      have e : ∀ L : List Value, L.toArray[j]? = L[j]? := fun L => by simp
      rw [show [] ++ [mk1, mk2] = [mk1, mk2] from rfl, marks_flat]
      refine Eq.trans ?_ (e _).symm
      rcases Nat.lt_or_ge j 8 with h | h
      · exact k4 j h
      · rw [Array.getElem?_eq_none (by omega), List.getElem?_eq_none (by simp [marks]; omega)]
    · exact (((Ch.refl [] w).alloc _).alloc _).trans k5 (fun x hx => by simp at hx; subst hx; exact .inr (Nat.le_refl _))
  · obtain ⟨b, off, rfl, hbn, hj⟩ := HR.out.2.resolve_left (by omega)
    have HSRC : Hid (∀ (j : Nat) (u : Value), (flat hs)[j]? = some u → (w.alloc (.cells (flat (List.replicate (n + 2) z)).toArray 58)).cell? ((⟨b, off, none⟩ : Addr).add j) = some u) := Lib.hid (fun j u hu => by
      have hlt : j < n * 4 := by
        rcases Nat.lt_or_ge j (n * 4) with h | h
        · exact h
        · rw [List.getElem?_eq_none (by rw [HR.out.1]; exact h)] at hu; cases hu
      rw [Addr.add_lit]
      exact HC0.out.cell ((hj j hlt).trans hu) (by simp))
    have H1C : Hid (∀ u ∈ flat hs, u.oneCell' = true) := Lib.hid (flat_one hs)
    have HLEN : Hid ((flat hs).length = n * 4) := Lib.hid HR.out.1
    clear hj hbn
    go_enter Tryd.func12, Tryd.ntmps12
    go_wp2_with (at_builtin; go_loud (refine wpList_append_room _ rfl _ _ 25 rfl 58 i0 4 Tryd.underlying25 hi hz1 w.heap.size 0 (n + 2) rfl _ HB0.out (by simp [flat_len]) ⟨b, off, none⟩ n cn (flat hs) rfl HLEN.out HSRC.out H1C.out (by omega) ?_))
    intro w1 arr1 g1 g2 g4 g5
    have M1 : Ch [] w1 (w1.alloc (.cells marks.toArray 58)) := (Ch.refl _ _).alloc _
    have HB1 := Lib.hid (M1.heap g1 (by simp))
    have hs1 : arr1.size = (n + 2) * 4 := by rw [g2]; simp [flat_len]
    have HS1 := Lib.hid hs1
    have HN1 := Lib.hid (newL (w := w1) (b := w1.heap.size) rfl marks 58)
    have HCW : Hid (Ch [] w w1) := Lib.hid (HC0.out.trans g5 (fun x hx => by simp at hx; subst hx; exact .inr (Nat.le_refl _)))
    have G4 := Lib.hid g4
    clear g1 g2 g4 g5 hs1 M1
    go_wp2_with (at_builtin; go_loud (refine wpList_append_room _ rfl _ _ 25 rfl 58 i0 4 Tryd.underlying25 hi hz1 w.heap.size n (n + 2) rfl _ HB1.out HS1.out ⟨w1.heap.size, 0, none⟩ 2 2 marks rfl rfl HN1.out marks_one (by omega) ?_))
    intro w2 arr2 k1 k2 k3 k4 k5
    have K := Lib.hid (And.intro k1 (And.intro k2 (And.intro k3 (And.intro k4 k5))))
    clear k1 k2 k3 k4 k5
    go_wp2_with fail
    go_ret
    obtain ⟨k1, k2, k3, k4, k5⟩ := K.out
    refine ⟨w.heap.size, rfl, ?_, ?_, Nat.le_refl _⟩
    · unfold LentCs
      rw [k1]
      congr 2
      apply Array.ext_getElem?
      intro j
      have hsz2 : arr2.size = (n + 2) * 4 := by rw [k2, HS1.out]
      have hll : (flat hs).length = n * 4 := HLEN.out
      rw [flat_append, marks_flat]
      have e : ∀ L : List Value, L.toArray[j]? = L[j]? := fun L => by simp
      refine Eq.trans ?_ (e _).symm
      rcases Nat.lt_or_ge j (n * 4) with h | h
      · have := G4.out j h
        rw [k3 j (by omega), this, List.getElem?_append_left (by omega)]
      · rcases Nat.lt_or_ge j ((n + 2) * 4) with h2 | h2
        · have := k4 (j - n * 4) (by omega)
          rw [show n * 4 + (j - n * 4) = j by omega] at this
          rw [this, List.getElem?_append_right (by omega), hll]
        · rw [Array.getElem?_eq_none (by omega), List.getElem?_eq_none (by rw [List.length_append, hll]; simp [marks]; omega)]
    · exact (HCW.out.alloc _).trans k5 (fun x hx => by simp at hx; subst hx; exact .inr (Nat.le_refl _))
theorem LentCs.rd {w : World} {q : Nat} {hs : List Cel} (h : LentCs w q hs) : RdF w (some ⟨q, 0, none⟩) (hs.length * 4) (flat hs) [] :=
  ⟨flat_len hs, .inr ⟨q, 0, rfl, by simp, fun j hj => by
    rw [Nat.zero_add, cell_at h, flat_append]
    simp only [List.getElem?_toArray]
    rw [List.getElem?_append_left (by rw [flat_len]; exact hj)]⟩⟩
set_option maxHeartbeats 1000000 in
theorem WholeCells_any (w : World) (q : Nat) (bo : Option Addr) (n cm : Nat) (hs : List Cel) (hn : n ≤ 1000000) (hl : hs.length = n) (h : LentCs w q hs) (hy : Rd w bo (n * 4) (flat hs)) :
    Calls Tryd.prog 19 #[.slice (some ⟨q, 0, none⟩) n (n + 2), .slice bo n cm] w fun e w' => e = .returned (.bool true) ∧ ∃ d, w' = w.drewN d := by
  have hrd := h.rd
  rw [hl] at hrd
  have SW := SameCells_any w (some ⟨q, 0, none⟩) bo n (n + 2) n cm hs hs (by omega) (by omega) hl hl hrd.rd hy
  rw [show decide (hs = hs) = true by simp] at SW
  have hat : ∀ t, t < 8 → w.cell? ⟨q, n * 4 + t, none⟩ = marks[t]? := fun t ht => by
    rw [cell_at h, flat_append, marks_flat, List.getElem?_toArray, List.getElem?_append_right (by rw [flat_len, hl]; omega), flat_len, hl, Nat.add_sub_cancel_left]
  have m0 := hat 0 (by omega)
  have m1 := hat 1 (by omega)
  have m2 := hat 2 (by omega)
  have m3 := hat 3 (by omega)
  have m4 := hat 4 (by omega)
  have m5 := hat 5 (by omega)
  have m6 := hat 6 (by omega)
  have m7 := hat 7 (by omega)
  simp only [marks, List.getElem?_cons_zero, List.getElem?_cons_succ, Nat.add_zero] at m0 m1 m2 m3 m4 m5 m6 m7
  rw [show n * 4 + 4 = (n + 1) * 4 by omega] at m4
  rw [show n * 4 + 5 = (n + 1) * 4 + 1 by omega] at m5
  rw [show n * 4 + 6 = (n + 1) * 4 + 2 by omega] at m6
  rw [show n * 4 + 7 = (n + 1) * 4 + 3 by omega] at m7
  clear hrd hl h hy hat
  go_enter Tryd.func19, Tryd.ntmps19
  go_wp2_with fail
  refine SW.mono ?_
  rintro e w2 ⟨rfl, d, rfl⟩
  go_wp2_with fail
  go_ret
  exact ⟨rfl, d, rfl⟩
end Go.Proofs.YtlhhcocdhkbdnaaDoor.Gr
