/-
  THE WALKS of package cells, on: Turn, change, Shade, Snapshot.
-/
import Derived.Test.YtefamhdkfdgdjaaDoorQCells2
import Derived.BigRegion
set_option linter.unusedVariables false
set_option linter.unusedSimpArgs false
set_option maxRecDepth 100000
namespace Go.Proofs.YtefamhdkfdgdjaaDoor.Cl
open Go.RowKit Go.Proofs.YtefamhdkfdgdjaaDoor.Hp Go.Proofs.YtefamhdkfdgdjaaDoor.Ato Go.Proofs.YtefamhdkfdgdjaaDoor.Cp

theorem Turn1_any (w : World) (b q1 q2 q3 : Nat) (x : Cel) (fr to : Int) (d0 : Bool)
    (hb : w.heap[b]? = some (.cells (cel x) 86 (0, 0)))
    (h1 : w.cell? ⟨q1, 0, none⟩ = some (.int .u8 fr)) (h2 : w.cell? ⟨q2, 0, none⟩ = some (.bool d0)) (h2f : w.frozen? ⟨q2, 0, none⟩ = false) (h3 : w.cell? ⟨q3, 0, none⟩ = some (.int .u8 to))
    (n1 : b ≠ q1) (n2 : b ≠ q2) (n3 : b ≠ q3) (n4 : q1 ≠ q2) (n5 : q2 ≠ q3) :
    Calls Tryd.prog 78 #[.pointer (some ⟨b, 0, none⟩), .pointer (some ⟨q1, 0, none⟩), .pointer (some ⟨q2, 0, none⟩), .pointer (some ⟨q3, 0, none⟩)] w fun e w' =>
      e = .returned (.bool (x.c == fr)) ∧ w'.heap[b]? = some (.cells (cel { x with c := to }) 86 (0, 0)) ∧ w'.cell? ⟨q2, 0, none⟩ = some (.bool (x.c == fr)) ∧ Ch [b, q2] w w' := by
  have k1 := cell_at (i := 1) hb
  have k1f := free_at (i := 1) hb
  have fin : ∀ v : Bool, ((w.setCell ⟨q2, 0, none⟩ (.bool v)).setCell ⟨b, 1, none⟩ (.int .u8 to)).drew.heap[b]? = some (.cells (cel { x with c := to }) 86 (0, 0)) ∧ ((w.setCell ⟨q2, 0, none⟩ (.bool v)).setCell ⟨b, 1, none⟩ (.int .u8 to)).drew.cell? ⟨q2, 0, none⟩ = some (.bool v) := by
    intro v
    refine ⟨?_, ?_⟩
    · have := heap_set (i := 1) ((heap_set_ne (w := w) (b := q2) (i := 0) (u := .bool v) n2).trans hb) (.int .u8 to)
      exact this
    · have e1 : ((w.setCell ⟨q2, 0, none⟩ (.bool v)).setCell ⟨b, 1, none⟩ (.int .u8 to)).drew.cell? ⟨q2, 0, none⟩ = (w.setCell ⟨q2, 0, none⟩ (.bool v)).cell? ⟨q2, 0, none⟩ := World.cell?_of_block (heap_set_ne (fun e => n2 e.symm))
      rw [e1]
      go_simp
  simp only [cel, List.getElem?_toArray, List.getElem?_cons_zero, List.getElem?_cons_succ] at k1
  clear hb
  generalize x.c = xc at *
  go_enter Tryd.func78, Tryd.ntmps78
  go_wp2_with fail
  go_region
  go_wp2_with fail
  go_ret
  exact ⟨rfl, (fin _).1, (fin _).2, (((Ch.refl _ w).setCell _ _ (.inl (by simp))).setCell _ _ (.inl (by simp))).drew⟩

theorem change_turn (w : World) (p s : Nat) (F : List Nat) (l : List Cel) (n : Nat) (fr to : Int) (h : Is w p s F l) (hn : n < l.length) (q1 q2 q3 : Nat) (ht : 0 ≤ to ∧ to ≤ 2)
    (h1 : w.cell? ⟨q1, 0, none⟩ = some (.int .u8 fr)) (h2 : w.cell? ⟨q2, 0, none⟩ = some (.bool false)) (h2f : w.frozen? ⟨q2, 0, none⟩ = false) (h3 : w.cell? ⟨q3, 0, none⟩ = some (.int .u8 to))
    (hq : q2 ∉ F) (n4 : q1 ≠ q2) (n5 : q2 ≠ q3) :
    Calls Tryd.prog 77 #[.pointer (some ⟨p, 0, none⟩), .int .i64 n, .func (.func 78) #[] #[.pointer (some ⟨q1, 0, none⟩), .pointer (some ⟨q2, 0, none⟩), .pointer (some ⟨q3, 0, none⟩)]] w fun e w' =>
      (e = .returned (.bool true) ∨ e = .returned (.bool false)) ∧ w'.cell? ⟨q2, 0, none⟩ = some (.bool (turnB l n fr to)) ∧ ∃ F', Is w' p s F' (turn l n fr to) ∧ Ch [s, q2] w w' ∧ ∀ b ∈ F', b ∈ F ∨ w.heap.size ≤ b := by
  obtain ⟨po, o1, o2, o3, o4, o5⟩ := h.slot n hn
  have u := o4.used o5
  have hi : isC l n = true := by simp [isC]; omega
  have L1 := Load_any w s n po o2 o4.slot
  rcases o4 with ⟨o4, rfl⟩ | ⟨hne, bb, hbb, rfl, hh⟩
  · have e : turnB l n fr to = false ∧ turn l n fr to = l := by
      have : used l n = false := by simp only [used, hi, Bool.true_and, get_nat, u]; rfl
      simp [turn, turnB, this]
    rw [e.1, e.2]
    clear e
    go_enter Tryd.func77, Tryd.ntmps77
    go_wp2_with fail
    refine wp_loop_rounds 1 ?_
    rw [rounds_succ]
    go_wp2_with (go_at_call 70; refine L1.mono ?_; rintro e w' ⟨rfl, rfl⟩)
    go_ret
    exact ⟨.inr rfl, h2, F, h, Ch.refl _ _, fun b hb => .inl hb⟩
  · have hlt2 : q2 < w.heap.size := World.block_lt_of_cell? w _ h2
    have hlt1 : q1 < w.heap.size := World.block_lt_of_cell? w _ h1
    have hlt3 : q3 < w.heap.size := World.block_lt_of_cell? w _ h3
    have hslt := h.lt s h.sf
    have k0 := cell_at (i := 0) hh
    have k1 := cell_at (i := 1) hh
    have k2 := cell_at (i := 2) hh
    have k3 := cell_at (i := 3) hh
    have C1 := Turn1_any (w.alloc (.cells (cel (l.getD n free)) 86)) w.heap.size q1 q2 q3 (l.getD n free) fr to false (heap_new w _) (((Ch.refl [] w).alloc _).cell h1 (by simp)) (((Ch.refl [] w).alloc _).cell h2 (by simp)) ((((Ch.refl [] w).alloc _).frozen hlt2 (by simp)).trans h2f) (((Ch.refl [] w).alloc _).cell h3 (by simp)) (by omega) (by omega) (by omega) n4 n5
    have okx := o5.resolve_left hne
    simp only [cel, List.getElem?_toArray, List.getElem?_cons_zero, List.getElem?_cons_succ] at k0 k1 k2 k3
    have e : turnB l n fr to = ((l.getD n free).c == fr) ∧ turn l n fr to = if (l.getD n free).c == fr then l.set n { l.getD n free with c := to } else l := by
      have hu : used l n = true := by simp only [used, hi, Bool.true_and, get_nat, u]; rfl
      have hd : decide (to ≤ 2) = true := by simp; omega
      simp only [turn, turnB, hu, hd, get_nat, Bool.true_and, Bool.and_true, Int.toNat_natCast, and_self]
    rw [e.1, e.2]
    clear e u
    generalize l.getD n free = x at *
    obtain ⟨xk, xc, xa, xb⟩ := x
    simp only at *
    go_enter Tryd.func77, Tryd.ntmps77
    go_wp2_with fail
    refine wp_loop_rounds 1 ?_
    rw [rounds_succ]
    go_wp2_with (go_at_call 70; refine L1.mono ?_; rintro e w' ⟨rfl, rfl⟩)
    refine C1.mono ?_
    rintro e w2 ⟨rfl, g1, g2, g3⟩
    have hc2 : Ch [q2] w w2 := ((Ch.refl [q2] w).alloc _).trans g3 (by simp)
    have hp2 := hc2.cell o1 (by simp; intro e; exact hq (e ▸ h.pf))
    have ho2 := hc2.cell o2 (by simp; intro e; exact hq (e ▸ h.sf))
    have hf2 := (hc2.frozen (p := ⟨s, n, none⟩) hslt (by simp; intro e; exact hq (e ▸ h.sf))).trans o3
    have hb2 := hc2.heap hh (by simp; intro e; exact hq (e ▸ hbb.1))
    have hF : ∀ b ∈ F, b ∉ [q2] := fun b hb => by simp; intro e; exact hq (e ▸ hb)
    have okx' : OkC ⟨xk, to, xa, xb⟩ := .inr (by simp; omega)
    have hP := h.put_at' hn hc2 hF (by intro hz; have := congrArg Cel.k hz; simp [free] at this; omega) okx' w.heap.size g1 (Nat.le_refl _)
    have hI := h.ch hc2 hF
    have K2 := Cas_hit w2 s n (some ⟨bb, 0, none⟩) (some ⟨w.heap.size, 0, none⟩) ho2 hf2 (.inr ⟨_, _, rfl, hb2, rfl⟩) (.inr ⟨_, _, rfl, g1, rfl⟩)
    have hq2 : (w2.setCell ⟨s, n, none⟩ (.pointer (some ⟨w.heap.size, 0, none⟩))).cell? ⟨q2, 0, none⟩ = some (.bool (xc == fr)) := (World.cell?_of_block (heap_set_ne (show q2 ≠ s from fun e => hq (e ▸ h.sf)))).trans g2
    clear g1 g3 hb2 C1 k0 k1 k2 k3 hh hne o5
    cases hd : (xc == fr)
    · rw [hd] at g2
      clear hP K2 hq2
      go_wp2_with fail
      go_ret
      exact ⟨.inl rfl, g2, F, hI, hc2.mono (by simp), fun b hb => .inl hb⟩
    · rw [hd] at g2 hq2
      clear hI
      go_wp2_with fail
      refine K2.mono ?_
      rintro e w' ⟨rfl, rfl⟩
      clear K2 ho2 hf2 hp2 g2
      obtain ⟨F', i1, i2, i3⟩ := hP
      generalize w2.setCell ⟨s, n, none⟩ (.pointer (some ⟨w.heap.size, 0, none⟩)) = w3 at *
      go_wp2_with fail
      go_ret
      exact ⟨.inl rfl, hq2, F', i1, i2, i3⟩

theorem Turn_any (w : World) (p s : Nat) (F : List Nat) (l : List Cel) (i fr to : Int) (h : Is w p s F l) (h0 : 0 ≤ to) :
    Calls Tryd.prog 37 #[.pointer (some ⟨p, 0, none⟩), .int .i64 i, .int .u8 fr, .int .u8 to] w fun e w' => e = .returned (.bool (turnB l i fr to)) ∧ To w w' p s F (turn l i fr to) := by
  have H := is_any _ p s F l i (h.ch (((Ch.refl [] w).alloc (.cells #[.int .u8 fr] 27)).alloc (.cells #[.int .u8 to] 27)) (by simp))
  cases hi : isC l i
  · have e : turnB l i fr to = false ∧ turn l i fr to = l := by simp [turn, turnB, used, hi]
    rw [e.1, e.2]; rw [hi] at H
    clear e
    go_enter Tryd.func37, Tryd.ntmps37
    go_wp2_with (go_at_call 68; refine H.mono ?_; rintro e w' ⟨rfl, rfl⟩)
    go_ret
    exact ⟨rfl, h.to (Ch.refl _ _ |>.alloc _ |>.alloc _)⟩
  · rw [hi] at H
    by_cases ht : 2 < to
    · have e : turnB l i fr to = false ∧ turn l i fr to = l := by
        have : decide (to ≤ 2) = false := by simp; omega
        simp [turn, turnB, this]
      rw [e.1, e.2]
      clear e
      go_enter Tryd.func37, Tryd.ntmps37
      go_wp2_with (go_at_call 68; refine H.mono ?_; rintro e w' ⟨rfl, rfl⟩)
      go_ret
      exact ⟨rfl, h.to (Ch.refl _ _ |>.alloc _ |>.alloc _)⟩
    · go_enter Tryd.func37, Tryd.ntmps37
      go_wp2_with (go_at_call 68; refine H.mono ?_; rintro e w' ⟨rfl, rfl⟩)
      have hc3 : Ch [] w (((w.alloc (.cells #[.int .u8 fr] 27)).alloc (.cells #[.int .u8 to] 27)).alloc (.cells #[.bool false] 4)) := (Ch.refl [] w).alloc _ |>.alloc _ |>.alloc _
      have g1 : (((w.alloc (.cells #[.int .u8 fr] 27)).alloc (.cells #[.int .u8 to] 27)).alloc (.cells #[.bool false] 4)).cell? ⟨w.heap.size, 0, none⟩ = some (.int .u8 fr) := by go_simp
      have g2 : (((w.alloc (.cells #[.int .u8 fr] 27)).alloc (.cells #[.int .u8 to] 27)).alloc (.cells #[.bool false] 4)).cell? ⟨w.heap.size + 1 + 1, 0, none⟩ = some (.bool false) := by go_simp
      have g2f : (((w.alloc (.cells #[.int .u8 fr] 27)).alloc (.cells #[.int .u8 to] 27)).alloc (.cells #[.bool false] 4)).frozen? ⟨w.heap.size + 1 + 1, 0, none⟩ = false := by go_simp
      have g3 : (((w.alloc (.cells #[.int .u8 fr] 27)).alloc (.cells #[.int .u8 to] 27)).alloc (.cells #[.bool false] 4)).cell? ⟨w.heap.size + 1, 0, none⟩ = some (.int .u8 to) := by go_simp
      generalize (((w.alloc (.cells #[.int .u8 fr] 27)).alloc (.cells #[.int .u8 to] 27)).alloc (.cells #[.bool false] 4)) = w3 at *
      obtain ⟨n, rfl, hn⟩ := isC_nat hi
      have hI := h.ch hc3 (by simp)
      refine (change_turn w3 p s F l n fr to hI hn w.heap.size (w.heap.size + 1 + 1) (w.heap.size + 1) ⟨h0, by omega⟩ g1 g2 g2f g3 (fun hm => by have := h.lt _ hm; omega) (by omega) (by omega)).mono ?_
      rintro e w4 ⟨hev, k1, F', k2, k3, k4⟩
      have hT : To w w4 p s F (turn l n fr to) := ⟨F', k2, (hc3.mono (T := [s]) (by simp)).trans k3 (by intro x hx; simp at hx; rcases hx with rfl | rfl; simp; right; omega), fun b hb => by
        rcases k4 b hb with h' | h'
        · exact .inl h'
        · exact .inr (Nat.le_trans hc3.size h')⟩
      clear k2 k3 k4 g1 g2 g2f g3 hI hc3 h H
      rcases hev with rfl | rfl
      · go_wp2_with fail
        go_ret
        exact ⟨rfl, hT⟩
      · go_wp2_with fail
        go_ret
        exact ⟨rfl, hT⟩
end Go.Proofs.YtefamhdkfdgdjaaDoor.Cl
