/-
  THE LAWS BarrierNumbers and BarrierBirth.
-/
import Derived.Test.YtlhhcocdhkbdnaaDoorQLaw13
set_option linter.unusedVariables false
set_option linter.unusedSimpArgs false
set_option maxRecDepth 100000
namespace Go.Proofs.YtlhhcocdhkbdnaaDoor.L13
open Go.RowKit Go.Proofs.YtlhhcocdhkbdnaaDoor.Wd Go.Proofs.YtlhhcocdhkbdnaaDoor.Hp Go.Proofs.YtlhhcocdhkbdnaaDoor.Gp Go.Proofs.YtlhhcocdhkbdnaaDoor.Sm Go.Proofs.YtlhhcocdhkbdnaaDoor.Gr Go.Proofs.YtlhhcocdhkbdnaaDoor.Bp
theorem BarrierNumbers_any (w : World) (hb : Bnd w) : Calls Tryd.prog 3 #[] w fun e w' => e = .returned (.bool true) ∧ Below w.heap.size w w' := by
  have K := known_any w hb
  clear hb
  go_enter Tryd.func3, Tryd.ntmps3
  go_wp2_with fail
  refine K.mono ?_
  rintro e w2 ⟨rfl, h⟩
  have H := Lib.hid h
  clear K h
  go_wp2_with fail
  go_ret
  exact ⟨rfl, H.out.below (by simp) (Nat.le_refl _)⟩
theorem on13_any (w : World) (p : Int) : Calls Tryd.prog 40 #[.int .u8 p] w fun e w' => e = .returned (.bool (onP p)) ∧ w' = w := by
  unfold onP
  by_cases h1 : p = 1
  · subst h1
    go_enter Tryd.func40, Tryd.ntmps40
    go_wp2_with fail
    go_ret
    exact ⟨rfl, rfl⟩
  · have h1' : (p == 1) = false := by simpa using h1
    rw [h1']
    clear h1
    go_enter Tryd.func40, Tryd.ntmps40
    go_wp2_with fail
    go_ret
    exact ⟨rfl, rfl⟩
theorem Birth13_any (w : World) (p cell swept : Int) : Calls Tryd.prog 22 #[.int .u8 p, .int .i64 cell, .int .i64 swept] w fun e w' => e = .returned (.int .u8 (birthC p cell swept)) ∧ w' = w := by
  have ON := on13_any w p
  unfold birthC
  cases ho : onP p
  · rw [ho] at ON
    clear ho
    by_cases h3 : p = 3
    · subst h3
      by_cases hs : swept ≤ cell
      · go_enter Tryd.func22, Tryd.ntmps22
        go_wp2_with fail
        refine ON.mono ?_
        rintro e w2 ⟨rfl, rfl⟩
        go_wp2_with fail
        all_goals
          go_ret
          exact ⟨by first | (simp [hs]; done) | (simp; omega), rfl⟩
      · go_enter Tryd.func22, Tryd.ntmps22
        go_wp2_with fail
        refine ON.mono ?_
        rintro e w2 ⟨rfl, rfl⟩
        go_wp2_with fail
        all_goals
          go_ret
          exact ⟨by first | (simp [hs]; done) | (simp; omega), rfl⟩
    · have h3' : (p == 3) = false := by simpa using h3
      rw [h3']
      clear h3
      go_enter Tryd.func22, Tryd.ntmps22
      go_wp2_with fail
      refine ON.mono ?_
      rintro e w2 ⟨rfl, rfl⟩
      go_wp2_with fail
      go_ret
      exact ⟨by simp, rfl⟩
  · rw [ho] at ON
    clear ho
    go_enter Tryd.func22, Tryd.ntmps22
    go_wp2_with fail
    refine ON.mono ?_
    rintro e w2 ⟨rfl, rfl⟩
    go_wp2_with fail
    go_ret
    exact ⟨by simp, rfl⟩
set_option maxHeartbeats 2000000 in
theorem BarrierBirth_any (w : World) (p cell swept : Int) (hb : Bnd w) : Calls Tryd.prog 5 #[.int .u8 p, .int .i64 cell, .int .i64 swept] w fun e w' => e = .returned (.bool true) ∧ Below w.heap.size w w' := by
  have K := known_any w hb
  have B1 := fun w => Bp.Birth_any w p cell swept
  have B2 := fun w => Birth13_any w p cell swept
  clear hb
  have hc : ∃ c, birthC p cell swept = c ∧ ((p = 1 ∧ c = 2) ∨ (p = 2 ∧ c = 2) ∨ (p ≠ 1 ∧ p ≠ 2 ∧ p = 3 ∧ swept ≤ cell ∧ c = 2) ∨ (p ≠ 1 ∧ p ≠ 2 ∧ p = 3 ∧ ¬ swept ≤ cell ∧ c = 0) ∨ (p ≠ 1 ∧ p ≠ 2 ∧ p ≠ 3 ∧ c = 0)) := by
    refine ⟨_, rfl, ?_⟩
    unfold birthC onP
    by_cases h1 : p = 1
    · left; simp [h1]
    · by_cases h2 : p = 2
      · right; left; simp [h2]
      · by_cases h3 : p = 3
        · by_cases hs : swept ≤ cell
          · right; right; left; simp [h1, h2, h3, hs]
          · right; right; right; left; simp [h3, hs]
        · right; right; right; right; simp [h1, h2, h3]
  obtain ⟨c, hc, hcase⟩ := hc
  rw [hc] at B1 B2
  clear hc
  rcases hcase with ⟨rfl, rfl⟩ | ⟨rfl, rfl⟩ | ⟨h1, h2, rfl, hs, rfl⟩ | ⟨h1, h2, rfl, hs, rfl⟩ | ⟨h1, h2, h3, rfl⟩
  all_goals
    try (have h1' : (p == 1) = false := by rw [beq_eq_false_iff_ne]; exact h1)
    try (have h2' : (p == 2) = false := by rw [beq_eq_false_iff_ne]; exact h2)
    try (have h3' : (p == 3) = false := by rw [beq_eq_false_iff_ne]; exact h3)
    try clear h3
    try clear h1 h2
    go_enter Tryd.func5, Tryd.ntmps5
    go_wp2_with fail
    refine K.mono ?_
    rintro e w2 ⟨rfl, h⟩
    have H := Lib.hid h
    have Q1 := B1 w2
    have Q2 := B2 w2
    clear K h B1 B2
    go_wp2_with fail
    refine Q1.mono ?_
    rintro e w3 ⟨rfl, rfl⟩
    clear Q1
    go_wp2_with fail
    refine Q2.mono ?_
    rintro e w3 ⟨rfl, rfl⟩
    clear Q2
    go_wp2_with fail
    all_goals
      go_ret
      exact ⟨by first | rfl | (simp; done) | (simp; omega), H.out.below (by simp) (Nat.le_refl _)⟩
end Go.Proofs.YtlhhcocdhkbdnaaDoor.L13
