/-
  THE WALKS of package dappleref01: each function comes to WordsPure's number, and leaves the world as it is.
-/
import Derived.Test.YtefamhdkfdgdjaaDoorProg
import Derived.Test.YtefamhdkfdgdjaaDoorQJWords
import Derived.WalkKit
import Derived.KernelRfl
set_option linter.unusedSimpArgs false
set_option linter.unusedVariables false
namespace Go.Proofs.YtefamhdkfdgdjaaDoor.Rd
open Go.RowKit Go.Proofs.YtefamhdkfdgdjaaDoor.Wd

set_option maxHeartbeats 1000000 in
theorem May_any (w : World) (t n : Int) (h0 : 0 ≤ t) (h1 : t ≤ 255) :
    Calls Tryd.prog 99 #[.int .u8 t, .int .i64 n] w fun e w' => e = .returned (.bool (mkOk t n)) ∧ w' = w := by
  by_cases ht : 1 ≤ t ∧ t ≤ 8
  · obtain ⟨ha, hb⟩ := ht
    obtain rfl | rfl | rfl | rfl | rfl | rfl | rfl | rfl : t = 1 ∨ t = 2 ∨ t = 3 ∨ t = 4 ∨ t = 5 ∨ t = 6 ∨ t = 7 ∨ t = 8 := by omega
    · have e : mkOk 1 n = (n == 0) := by rw [Bool.eq_iff_iff]; simp [mkOk, okT, okN, lo, hi]; omega
      rw [e]; clear e
      go_enter Tryd.func99, Tryd.ntmps99
      go_wp2
      go_ret
      exact ⟨rfl, rfl⟩
    · have e : mkOk 2 n = (n == 0) := by rw [Bool.eq_iff_iff]; simp [mkOk, okT, okN, lo, hi]; omega
      rw [e]; clear e
      go_enter Tryd.func99, Tryd.ntmps99
      go_wp2
      go_ret
      exact ⟨rfl, rfl⟩
    · have e : mkOk 3 n = (n == 0) := by rw [Bool.eq_iff_iff]; simp [mkOk, okT, okN, lo, hi]; omega
      rw [e]; clear e
      go_enter Tryd.func99, Tryd.ntmps99
      go_wp2
      go_ret
      exact ⟨rfl, rfl⟩
    · have e : mkOk 4 n = (n == 0) := by rw [Bool.eq_iff_iff]; simp [mkOk, okT, okN, lo, hi]; omega
      rw [e]; clear e
      go_enter Tryd.func99, Tryd.ntmps99
      go_wp2
      go_ret
      exact ⟨rfl, rfl⟩
    · have e : mkOk 5 n = (decide (-576460752303423488 ≤ n) && decide (n ≤ 576460752303423487)) := by simp [mkOk, okT, okN, lo, hi]
      rw [e]; clear e
      go_enter Tryd.func99, Tryd.ntmps99
      go_wp2
      all_goals go_ret
      · have : -576460752303423488 ≤ n := by assumption
        exact ⟨by simp [this], rfl⟩
      · have : ¬ -576460752303423488 ≤ n := by omega
        exact ⟨by simp [this], rfl⟩
    · have e : mkOk 6 n = (decide (0 ≤ n) && decide (n ≤ 2147483647)) := by simp [mkOk, okT, okN, lo, hi]
      rw [e]; clear e
      go_enter Tryd.func99, Tryd.ntmps99
      go_wp2
      all_goals go_ret
      · have : 0 ≤ n := by assumption
        exact ⟨by simp [this], rfl⟩
      · have : ¬ 0 ≤ n := by omega
        exact ⟨by simp [this], rfl⟩
    · have e : mkOk 7 n = (decide (1 ≤ n) && decide (n ≤ 22)) := by simp [mkOk, okT, okN, lo, hi]
      rw [e]; clear e
      go_enter Tryd.func99, Tryd.ntmps99
      go_wp2
      all_goals go_ret
      · have : 1 ≤ n := by assumption
        exact ⟨by simp [this], rfl⟩
      · have : ¬ 1 ≤ n := by omega
        exact ⟨by simp [this], rfl⟩
    · have e : mkOk 8 n = (decide (0 ≤ n) && decide (n ≤ 2147483647)) := by simp [mkOk, okT, okN, lo, hi]
      rw [e]; clear e
      go_enter Tryd.func99, Tryd.ntmps99
      go_wp2
      all_goals go_ret
      · have : 0 ≤ n := by assumption
        exact ⟨by simp [this], rfl⟩
      · have : ¬ 0 ≤ n := by omega
        exact ⟨by simp [this], rfl⟩
  · have e : mkOk t n = false := by simp [mkOk, okT]; omega
    rw [e]
    have c1 : (t == 1) = false := by rw [beq_eq_false_iff_ne]; omega
    have c2 : (t == 2) = false := by rw [beq_eq_false_iff_ne]; omega
    have c3 : (t == 3) = false := by rw [beq_eq_false_iff_ne]; omega
    have c4 : (t == 4) = false := by rw [beq_eq_false_iff_ne]; omega
    have c5 : (t == 5) = false := by rw [beq_eq_false_iff_ne]; omega
    have c6 : (t == 6) = false := by rw [beq_eq_false_iff_ne]; omega
    have c7 : (t == 7) = false := by rw [beq_eq_false_iff_ne]; omega
    have c8 : (t == 8) = false := by rw [beq_eq_false_iff_ne]; omega
    clear e ht
    go_enter Tryd.func99, Tryd.ntmps99
    go_wp2
    go_ret
    exact ⟨rfl, rfl⟩

theorem Of_any (w : World) (x : Int) (h0 : 0 ≤ x) (hx : x < 18446744073709551616) :
    Calls Tryd.prog 90 #[.int .u64 x] w fun e w' => e = .returned (.tuple #[.int .u8 (ofT x), .int .i64 (ofN x), .bool (ofOk x)]) ∧ w' = w := by
  by_cases hg : 576460752303423487 < x / 16
  · have hs : sN x = x / 16 - 1152921504606846976 := by unfold sN; rw [if_pos hg]
    have H := May_any w (x % 16) (x / 16 - 1152921504606846976) (by omega) (by omega)
    rw [← hs] at H
    cases ho : ofOk x
    · have hT : ofT x = 0 := by simp [ofT, ho]
      have hN : ofN x = 0 := by simp [ofN, ho]
      have hm : mkOk (x % 16) (sN x) = false := ho
      rw [hT, hN]; rw [hm] at H
      rw [hs] at H
      clear ho hT hN hm hs
      have m1 : 0 ≤ x % 16 := by omega
      have m2 : x % 16 ≤ 15 := by omega
      have d1 : x / 16 ≤ 1152921504606846975 := by omega
      go_enter Tryd.func90, Tryd.ntmps90
      go_wp2_with (go_at_call 99; refine H.mono ?_; rintro e w' ⟨rfl, rfl⟩)
      go_ret3
      exact ⟨rfl, rfl⟩
    · have hT : ofT x = x % 16 := by simp [ofT, ho]
      have hN : ofN x = sN x := by simp [ofN, ho]
      have hm : mkOk (x % 16) (sN x) = true := ho
      rw [hT, hN]; rw [hm] at H
      rw [hs] at H ⊢
      clear ho hT hN hm hs
      have m1 : 0 ≤ x % 16 := by omega
      have m2 : x % 16 ≤ 15 := by omega
      have d1 : x / 16 ≤ 1152921504606846975 := by omega
      go_enter Tryd.func90, Tryd.ntmps90
      go_wp2_with (go_at_call 99; refine H.mono ?_; rintro e w' ⟨rfl, rfl⟩)
      go_ret3
      exact ⟨rfl, rfl⟩
  · have hs : sN x = x / 16 := by unfold sN; rw [if_neg hg]
    have H := May_any w (x % 16) (x / 16) (by omega) (by omega)
    rw [← hs] at H
    cases ho : ofOk x
    · have hT : ofT x = 0 := by simp [ofT, ho]
      have hN : ofN x = 0 := by simp [ofN, ho]
      have hm : mkOk (x % 16) (sN x) = false := ho
      rw [hT, hN]; rw [hm] at H
      rw [hs] at H
      clear ho hT hN hm hs
      have m1 : 0 ≤ x % 16 := by omega
      have m2 : x % 16 ≤ 15 := by omega
      have d1 : x / 16 ≤ 1152921504606846975 := by omega
      go_enter Tryd.func90, Tryd.ntmps90
      go_wp2_with (go_at_call 99; refine H.mono ?_; rintro e w' ⟨rfl, rfl⟩)
      go_ret3
      exact ⟨rfl, rfl⟩
    · have hT : ofT x = x % 16 := by simp [ofT, ho]
      have hN : ofN x = sN x := by simp [ofN, ho]
      have hm : mkOk (x % 16) (sN x) = true := ho
      rw [hT, hN]; rw [hm] at H
      rw [hs] at H ⊢
      clear ho hT hN hm hs
      have m1 : 0 ≤ x % 16 := by omega
      have m2 : x % 16 ≤ 15 := by omega
      have d1 : x / 16 ≤ 1152921504606846975 := by omega
      go_enter Tryd.func90, Tryd.ntmps90
      go_wp2_with (go_at_call 99; refine H.mono ?_; rintro e w' ⟨rfl, rfl⟩)
      go_ret3
      exact ⟨rfl, rfl⟩
theorem Cell_any (w : World) (x : Int) (h0 : 0 ≤ x) (hx : x < 18446744073709551616) :
    Calls Tryd.prog 72 #[.int .u64 x] w fun e w' => e = .returned (.tuple #[.int .i64 (cellN x), .bool (isRef x)]) ∧ w' = w := by
  have H := Of_any w x h0 hx
  have hr := ofN_range x
  cases ho : ofOk x
  · have hT : ofT x = 0 := by simp [ofT, ho]
    have hi : isRef x = false := by simp [isRef, hT]
    have hc : cellN x = 0 := by simp [cellN, hi]
    rw [hc, hi]; rw [ho] at H
    clear hi hc hT ho
    generalize ofT x = a at *; generalize ofN x = b at *
    go_enter Tryd.func72, Tryd.ntmps72
    go_wp2_with (go_at_call 90; refine H.mono ?_; rintro e w' ⟨rfl, rfl⟩)
    go_ret2
    exact ⟨rfl, rfl⟩
  · rw [ho] at H
    cases hi : isRef x
    · have hc : cellN x = 0 := by simp [cellN, hi]
      have hi' : (ofT x != 8) = true := by simpa [isRef] using hi
      rw [hc]
      generalize ofT x = a at *; generalize ofN x = b at *
      clear hi hc
      go_enter Tryd.func72, Tryd.ntmps72
      go_wp2_with (go_at_call 90; refine H.mono ?_; rintro e w' ⟨rfl, rfl⟩)
      go_ret2
      exact ⟨rfl, rfl⟩
    · have hc : cellN x = ofN x := by simp [cellN, hi]
      have hi' : (ofT x != 8) = false := by simpa [isRef] using hi
      rw [hc]
      generalize ofT x = a at *; generalize ofN x = b at *
      clear hi hc
      go_enter Tryd.func72, Tryd.ntmps72
      go_wp2_with (go_at_call 90; refine H.mono ?_; rintro e w' ⟨rfl, rfl⟩)
      go_ret2
      exact ⟨rfl, rfl⟩
end Go.Proofs.YtefamhdkfdgdjaaDoor.Rd
