/-
  THE WALK of cells.Heap.Swap into a cell's first field.
-/
import Derived.Test.YtefamhdkfdgdjaaDoorQRef03b
import Derived.StillTailTactics
import Derived.BigRegion
set_option linter.unusedVariables false
set_option linter.unusedSimpArgs false
set_option maxRecDepth 100000
namespace Go.Proofs.YtefamhdkfdgdjaaDoor.Mk
open Go.RowKit Go.Proofs.YtefamhdkfdgdjaaDoor.Wd Go.Proofs.YtefamhdkfdgdjaaDoor.Hp Go.Proofs.YtefamhdkfdgdjaaDoor.Sm Go.Proofs.YtefamhdkfdgdjaaDoor.Ato Go.Proofs.YtefamhdkfdgdjaaDoor.Cp Go.Proofs.YtefamhdkfdgdjaaDoor.Cl Go.Proofs.YtefamhdkfdgdjaaDoor.R03
theorem Swap1_any (w : World) (b q1 q2 q3 : Nat) (x : Cel) (v d0 : Int)
    (hb : w.heap[b]? = some (.cells (cel x) 86 (0, 0)))
    (h1 : w.cell? ⟨q1, 0, none⟩ = some (.int .i64 0)) (h2 : w.cell? ⟨q2, 0, none⟩ = some (.int .u64 d0)) (h2f : w.frozen? ⟨q2, 0, none⟩ = false) (h3 : w.cell? ⟨q3, 0, none⟩ = some (.int .u64 v))
    (n1 : b ≠ q1) (n2 : b ≠ q2) (n3 : b ≠ q3) (n4 : q1 ≠ q2) (n5 : q2 ≠ q3) :
    Calls Tryd.prog 82 #[.pointer (some ⟨b, 0, none⟩), .pointer (some ⟨q1, 0, none⟩), .pointer (some ⟨q2, 0, none⟩), .pointer (some ⟨q3, 0, none⟩)] w fun e w' =>
      e = .returned (.bool true) ∧ w'.heap[b]? = some (.cells (cel { x with a := v }) 86 (0, 0)) ∧ (∃ y, w'.cell? ⟨q2, 0, none⟩ = some (.int .u64 y)) ∧ Ch [b, q2] w w' := by
  have k1 := cell_at (i := 2) hb
  have k1f := free_at (i := 2) hb
  have fin : ∀ y : Int, ((w.setCell ⟨q2, 0, none⟩ (.int .u64 y)).drew.setCell ⟨b, 2, none⟩ (.int .u64 v)).heap[b]? = some (.cells (cel { x with a := v }) 86 (0, 0)) ∧ ((w.setCell ⟨q2, 0, none⟩ (.int .u64 y)).drew.setCell ⟨b, 2, none⟩ (.int .u64 v)).cell? ⟨q2, 0, none⟩ = some (.int .u64 y) := by
    intro y
    refine ⟨?_, ?_⟩
    · have := heap_set (w := (w.setCell ⟨q2, 0, none⟩ (.int .u64 y)).drew) (i := 2) ((heap_set_ne (w := w) (b := q2) (i := 0) (u := .int .u64 y) n2).trans hb) (.int .u64 v)
      exact this
    · have e1 : ((w.setCell ⟨q2, 0, none⟩ (.int .u64 y)).drew.setCell ⟨b, 2, none⟩ (.int .u64 v)).cell? ⟨q2, 0, none⟩ = (w.setCell ⟨q2, 0, none⟩ (.int .u64 y)).cell? ⟨q2, 0, none⟩ := World.cell?_of_block (heap_set_ne (w := (w.setCell ⟨q2, 0, none⟩ (.int .u64 y)).drew) (fun e => n2 e.symm))
      rw [e1]
      go_simp
  simp only [cel, List.getElem?_toArray, List.getElem?_cons_zero, List.getElem?_cons_succ] at k1
  have IN := in_any w b 0
  rw [if_pos rfl] at IN
  have IN2 : Hid (∀ W, Calls Tryd.prog 83 #[.pointer (some ⟨b, 0, none⟩), .int .i64 0] W fun e w' => e = .returned (.pointer (some ⟨b, 2, none⟩)) ∧ w' = W) := Lib.hid (fun W => (in_any W b 0).mono (fun e w' h => by simpa using h))
  clear hb
  generalize x.a = xa at *
  have KA : (w.setCell ⟨q2, 0, none⟩ (.int .u64 xa)).cell? ⟨q1, 0, none⟩ = some (.int .i64 0) := (World.cell?_of_block (heap_set_ne n4)).trans h1
  have KB : (w.setCell ⟨q2, 0, none⟩ (.int .u64 xa)).cell? ⟨q3, 0, none⟩ = some (.int .u64 v) := (World.cell?_of_block (heap_set_ne (Ne.symm n5))).trans h3
  have KC : (w.setCell ⟨q2, 0, none⟩ (.int .u64 xa)).cell? ⟨b, 2, none⟩ = some (.int .u64 xa) := (World.cell?_of_block (heap_set_ne n2)).trans k1
  have KF : (w.setCell ⟨q2, 0, none⟩ (.int .u64 xa)).frozen? ⟨b, 2, none⟩ = false := (World.frozen?_of_block (heap_set_ne n2)).trans k1f
  have HC := Lib.hid ((Ch.refl [b, q2] w).setCell ⟨q2, 0, none⟩ (.int .u64 xa) (.inl (by simp)))
  have HFIN := Lib.hid (fin xa)
  clear fin
  go_enter Tryd.func82, Tryd.ntmps82
  go_wp2_with fail
  refine IN.mono ?_
  rintro e w2 ⟨rfl, rfl⟩
  clear IN
  go_wp2_with fail
  have PB := IN2.out (w2.setCell ⟨q2, 0, none⟩ (.int .u64 xa)).drew
  generalize w2.setCell ⟨q2, 0, none⟩ (.int .u64 xa) = w3 at *
  refine wp_region_still_tail 5 (by kernel_rfl) (by kernel_rfl) ?_
  simp only [List.take_succ_cons, List.take_zero, List.drop_succ_cons, List.drop_zero]
  still_step
  still_step
  still_call PB
  still_step
  still_step
  refine wpStill_nil ?_
  change wpList _ _ _ _ _ w3.drew
  have KC2 : w3.drew.cell? ⟨b, 2, none⟩ = some (.int .u64 xa) := KC
  have KF2 : w3.drew.frozen? ⟨b, 2, none⟩ = false := KF
  go_wp2_with fail
  go_ret
  exact ⟨rfl, HFIN.out.1, ⟨_, HFIN.out.2⟩, (HC.out.drew).setCell _ _ (.inl (by simp))⟩
theorem change_swap (w : World) (p s : Nat) (F : List Nat) (l : List Cel) (n : Nat) (v : Int) (h : Is w p s F l) (hn : n < l.length) (q1 q2 q3 : Nat) (hv : 0 ≤ v ∧ v < 18446744073709551616)
    (h1 : w.cell? ⟨q1, 0, none⟩ = some (.int .i64 0)) (h2 : w.cell? ⟨q2, 0, none⟩ = some (.int .u64 0)) (h2f : w.frozen? ⟨q2, 0, none⟩ = false) (h3 : w.cell? ⟨q3, 0, none⟩ = some (.int .u64 v))
    (hq : q2 ∉ F) (n4 : q1 ≠ q2) (n5 : q2 ≠ q3) :
    Calls Tryd.prog 77 #[.pointer (some ⟨p, 0, none⟩), .int .i64 n, .func (.func 82) #[] #[.pointer (some ⟨q1, 0, none⟩), .pointer (some ⟨q2, 0, none⟩), .pointer (some ⟨q3, 0, none⟩)]] w fun e w' =>
      (e = .returned (.bool true) ∨ e = .returned (.bool false)) ∧ (∃ y, w'.cell? ⟨q2, 0, none⟩ = some (.int .u64 y)) ∧ ∃ F', Is w' p s F' (swap0 l n v) ∧ Ch [s, q2] w w' ∧ ∀ b ∈ F', b ∈ F ∨ w.heap.size ≤ b := by
  obtain ⟨po, o1, o2, o3, o4, o5⟩ := h.slot n hn
  have u := o4.used o5
  have hi : isC l n = true := by simp [isC]; omega
  have L1 := Load_any w s n po o2 o4.slot
  rcases o4 with ⟨o4, rfl⟩ | ⟨hne, bb, hbb, rfl, hh⟩
  · have e : swap0 l n v = l := by
      have : used l n = false := by simp only [used, hi, Bool.true_and, get_nat, u]; rfl
      simp [swap0, loadE, hi, this]
    rw [e]
    clear e
    go_enter Tryd.func77, Tryd.ntmps77
    go_wp2_with fail
    refine wp_loop_rounds 1 ?_
    rw [rounds_succ]
    go_wp2_with (go_at_call 70; refine L1.mono ?_; rintro e w' ⟨rfl, rfl⟩)
    go_ret
    exact ⟨.inr rfl, ⟨_, h2⟩, F, h, Ch.refl _ _, fun b hb => .inl hb⟩
  · have hlt2 : q2 < w.heap.size := World.block_lt_of_cell? w _ h2
    have hlt1 : q1 < w.heap.size := World.block_lt_of_cell? w _ h1
    have hlt3 : q3 < w.heap.size := World.block_lt_of_cell? w _ h3
    have hslt := h.lt s h.sf
    have k0 := cell_at (i := 0) hh
    have k1 := cell_at (i := 1) hh
    have k2 := cell_at (i := 2) hh
    have k3 := cell_at (i := 3) hh
    have C1 := Swap1_any (w.alloc (.cells (cel (l.getD n free)) 86)) w.heap.size q1 q2 q3 (l.getD n free) v 0 (heap_new w _) (((Ch.refl [] w).alloc _).cell h1 (by simp)) (((Ch.refl [] w).alloc _).cell h2 (by simp)) ((((Ch.refl [] w).alloc _).frozen hlt2 (by simp)).trans h2f) (((Ch.refl [] w).alloc _).cell h3 (by simp)) (by omega) (by omega) (by omega) n4 n5
    have okx := o5.resolve_left hne
    simp only [cel, List.getElem?_toArray, List.getElem?_cons_zero, List.getElem?_cons_succ] at k0 k1 k2 k3
    have e : swap0 l n v = l.set n { l.getD n free with a := v } := by
      have hu : used l n = true := by simp only [used, hi, Bool.true_and, get_nat, u]; rfl
      simp [swap0, loadE, hi, hu, get_nat]
    rw [e]
    clear e u
    generalize l.getD n free = x at *
    obtain ⟨xk, xc, xa, xb⟩ := x
    simp only at *
    go_enter Tryd.func77, Tryd.ntmps77
    go_wp2_with fail
    refine wp_loop_rounds 1 ?_
    rw [rounds_succ]
    go_wp2_with (go_at_call 70; refine L1.mono ?_; rintro e w' ⟨rfl, rfl⟩)
    refine C1.mono ?_
    rintro e w2 ⟨rfl, g1, g2, g3⟩
    have hc2 : Ch [q2] w w2 := ((Ch.refl [q2] w).alloc _).trans g3 (by simp)
    have hp2 := hc2.cell o1 (by simp; intro e; exact hq (e ▸ h.pf))
    have ho2 := hc2.cell o2 (by simp; intro e; exact hq (e ▸ h.sf))
    have hf2 := (hc2.frozen (p := ⟨s, n, none⟩) hslt (by simp; intro e; exact hq (e ▸ h.sf))).trans o3
    have hb2 := hc2.heap hh (by simp; intro e; exact hq (e ▸ hbb.1))
    have hF : ∀ b ∈ F, b ∉ [q2] := fun b hb => by simp; intro e; exact hq (e ▸ hb)
    have okx' : OkC ⟨xk, xc, v, xb⟩ := .inr (by simp; omega)
    have hP := h.put_at' hn hc2 hF (by intro hz; have := congrArg Cel.k hz; simp [free] at this; omega) okx' w.heap.size g1 (Nat.le_refl _)
    have K2 := Cas_hit w2 s n (some ⟨bb, 0, none⟩) (some ⟨w.heap.size, 0, none⟩) ho2 hf2 (.inr ⟨_, _, rfl, hb2, rfl⟩) (.inr ⟨_, _, rfl, g1, rfl⟩)
    obtain ⟨y, g2⟩ := g2
    have hq2 : (w2.setCell ⟨s, n, none⟩ (.pointer (some ⟨w.heap.size, 0, none⟩))).cell? ⟨q2, 0, none⟩ = some (.int .u64 y) := (World.cell?_of_block (heap_set_ne (show q2 ≠ s from fun e => hq (e ▸ h.sf)))).trans g2
    clear g1 g3 hb2 C1 k0 k1 k2 k3 hh hne o5
    go_wp2_with fail
    refine K2.mono ?_
    rintro e w' ⟨rfl, rfl⟩
    clear K2 ho2 hf2 hp2 g2
    obtain ⟨F', i1, i2, i3⟩ := hP
    generalize w2.setCell ⟨s, n, none⟩ (.pointer (some ⟨w.heap.size, 0, none⟩)) = w3 at *
    go_wp2_with fail
    go_ret
    exact ⟨.inl rfl, ⟨_, hq2⟩, F', i1, i2, i3⟩
theorem Swap_any (w : World) (p s : Nat) (F : List Nat) (l : List Cel) (i v : Int) (h : Is w p s F l) (hv : 0 ≤ v ∧ v < 18446744073709551616) :
    Calls Tryd.prog 41 #[.pointer (some ⟨p, 0, none⟩), .int .i64 i, .int .i64 0, .int .u64 v] w fun e w' => (∃ y z : Int, e = .returned (.tuple #[.int .u64 y, .int .i64 z])) ∧ To w w' p s F (swap0 l i v) := by
  have H := field_any _ p s F l i 0 (h.ch (((Ch.refl [] w).alloc (.cells #[.int .i64 0] 3)).alloc (.cells #[.int .u64 v] 29)) (by simp))
  simp only [beq_self_eq_true, Bool.true_or, Bool.and_true] at H
  cases hi : isC l i
  · have e : swap0 l i v = l := by simp [swap0, loadE, hi]
    rw [e]; rw [hi] at H
    clear e
    go_enter Tryd.func41, Tryd.ntmps41
    go_wp2_with (go_at_call 81; refine H.mono ?_; rintro e w' ⟨rfl, rfl⟩)
    go_ret2
    exact ⟨⟨_, _, rfl⟩, h.to (Ch.refl _ _ |>.alloc _ |>.alloc _)⟩
  · rw [hi] at H
    go_enter Tryd.func41, Tryd.ntmps41
    go_wp2_with (go_at_call 81; refine H.mono ?_; rintro e w' ⟨rfl, rfl⟩)
    have hc3 : Ch [] w (((w.alloc (.cells #[.int .i64 0] 3)).alloc (.cells #[.int .u64 v] 29)).alloc (.cells #[.int .u64 0] 29)) := (Ch.refl [] w).alloc _ |>.alloc _ |>.alloc _
    have g1 : (((w.alloc (.cells #[.int .i64 0] 3)).alloc (.cells #[.int .u64 v] 29)).alloc (.cells #[.int .u64 0] 29)).cell? ⟨w.heap.size, 0, none⟩ = some (.int .i64 0) := by go_simp
    have g2 : (((w.alloc (.cells #[.int .i64 0] 3)).alloc (.cells #[.int .u64 v] 29)).alloc (.cells #[.int .u64 0] 29)).cell? ⟨w.heap.size + 1 + 1, 0, none⟩ = some (.int .u64 0) := by go_simp
    have g2f : (((w.alloc (.cells #[.int .i64 0] 3)).alloc (.cells #[.int .u64 v] 29)).alloc (.cells #[.int .u64 0] 29)).frozen? ⟨w.heap.size + 1 + 1, 0, none⟩ = false := by go_simp
    have g3 : (((w.alloc (.cells #[.int .i64 0] 3)).alloc (.cells #[.int .u64 v] 29)).alloc (.cells #[.int .u64 0] 29)).cell? ⟨w.heap.size + 1, 0, none⟩ = some (.int .u64 v) := by go_simp
    generalize (((w.alloc (.cells #[.int .i64 0] 3)).alloc (.cells #[.int .u64 v] 29)).alloc (.cells #[.int .u64 0] 29)) = w3 at *
    obtain ⟨n, rfl, hn⟩ := isC_nat hi
    have hI := h.ch hc3 (by simp)
    refine (change_swap w3 p s F l n v hI hn w.heap.size (w.heap.size + 1 + 1) (w.heap.size + 1) hv g1 g2 g2f g3 (fun hm => by have := h.lt _ hm; omega) (by omega) (by omega)).mono ?_
    rintro e w4 ⟨hev, ⟨y, k1⟩, F', k2, k3, k4⟩
    have hT : To w w4 p s F (swap0 l n v) := ⟨F', k2, (hc3.mono (T := [s]) (by simp)).trans k3 (by intro x hx; simp at hx; rcases hx with rfl | rfl; simp; right; omega), fun b hb => by
      rcases k4 b hb with h' | h'
      · exact .inl h'
      · exact .inr (Nat.le_trans hc3.size h')⟩
    clear k2 k3 k4 g1 g2 g2f g3 hI hc3 h H
    rcases hev with rfl | rfl
    · go_wp2_with fail
      go_ret2
      exact ⟨⟨_, _, rfl⟩, hT⟩
    · go_wp2_with fail
      go_ret2
      exact ⟨⟨_, _, rfl⟩, hT⟩
end Go.Proofs.YtefamhdkfdgdjaaDoor.Mk
