/-
  THE WALKS of package dappleref01, the second half: both and Reckon come to WordsPure's numbers.
-/
import Derived.Test.YticlgmlhkkimkaaDoorRef01
set_option linter.unusedSimpArgs false
set_option linter.unusedVariables false
namespace Go.Proofs.YticlgmlhkkimkaaDoor.Rd
open Go.RowKit Go.Proofs.YticlgmlhkkimkaaDoor.Wd

theorem both_any (w : World) (x y : Int) (h0 : 0 ≤ x) (hx : x < 18446744073709551616) (k0 : 0 ≤ y) (hy : y < 18446744073709551616) :
    Calls Tryd.prog 34 #[.int .u64 x, .int .u64 y] w fun e w' => e = .returned (.tuple #[.int .i64 (ofN x), .int .i64 (ofN y), .bool (isInts x y)]) ∧ w' = w := by
  have H := Of_any w x h0 hx
  have K := Of_any w y k0 hy
  cases hi : isInts x y
  · by_cases c1 : ofOk x = true
    · by_cases c2 : ofOk y = true
      · rw [c1] at H; rw [c2] at K
        by_cases c : ofT x = 5
        · have d : (ofT x == 5) = true := by simp [c]
          have d' : (ofT y == 5) = false := by simp [isInts, c] at hi; simpa using hi
          clear hi c c1 c2
          generalize ofT x = a at *; generalize ofN x = b at *
          generalize ofT y = a' at *; generalize ofN y = b' at *
          go_enter Tryd.func34, Tryd.ntmps34
          go_wp2_with (first | (go_at_call 14; with_reducible refine H.mono ?_; rintro e w' ⟨rfl, rfl⟩) | (go_at_call 14; with_reducible refine K.mono ?_; rintro e w' ⟨rfl, rfl⟩))
          go_ret3
          exact ⟨rfl, rfl⟩
        · have d : (ofT x == 5) = false := by simp [c]
          clear hi c c1 c2
          generalize ofT x = a at *; generalize ofN x = b at *
          generalize ofT y = a' at *; generalize ofN y = b' at *
          go_enter Tryd.func34, Tryd.ntmps34
          go_wp2_with (first | (go_at_call 14; with_reducible refine H.mono ?_; rintro e w' ⟨rfl, rfl⟩) | (go_at_call 14; with_reducible refine K.mono ?_; rintro e w' ⟨rfl, rfl⟩))
          go_ret3
          exact ⟨rfl, rfl⟩
      · have c2' : ofOk y = false := by simpa using c2
        rw [c1] at H; rw [c2'] at K
        clear hi c1 c2 c2'
        generalize ofT x = a at *; generalize ofN x = b at *
        generalize ofT y = a' at *; generalize ofN y = b' at *
        go_enter Tryd.func34, Tryd.ntmps34
        go_wp2_with (first | (go_at_call 14; with_reducible refine H.mono ?_; rintro e w' ⟨rfl, rfl⟩) | (go_at_call 14; with_reducible refine K.mono ?_; rintro e w' ⟨rfl, rfl⟩))
        go_ret3
        exact ⟨rfl, rfl⟩
    · have c1' : ofOk x = false := by simpa using c1
      rw [c1'] at H
      clear hi c1 c1'
      generalize ofT x = a at *; generalize ofN x = b at *
      generalize ofT y = a' at *; generalize ofN y = b' at *; generalize ofOk y = d' at *
      go_enter Tryd.func34, Tryd.ntmps34
      go_wp2_with (first | (go_at_call 14; with_reducible refine H.mono ?_; rintro e w' ⟨rfl, rfl⟩) | (go_at_call 14; with_reducible refine K.mono ?_; rintro e w' ⟨rfl, rfl⟩))
      go_ret3
      exact ⟨rfl, rfl⟩
  · have hi2 : ofT x = 5 ∧ ofT y = 5 := by simpa [isInts] using hi
    have o1 : ofOk x = true := by
      cases o : ofOk x
      · have := hi2.1; simp [ofT, o] at this
      · rfl
    have o2 : ofOk y = true := by
      cases o : ofOk y
      · have := hi2.2; simp [ofT, o] at this
      · rfl
    rw [o1, hi2.1] at H; rw [o2, hi2.2] at K
    clear hi hi2 o1 o2
    generalize ofN x = b at *
    generalize ofN y = b' at *
    go_enter Tryd.func34, Tryd.ntmps34
    go_wp2_with (first | (go_at_call 14; with_reducible refine H.mono ?_; rintro e w' ⟨rfl, rfl⟩) | (go_at_call 14; with_reducible refine K.mono ?_; rintro e w' ⟨rfl, rfl⟩))
    go_ret3
    exact ⟨rfl, rfl⟩

theorem okN5 (n : Int) : okN 5 n = (decide (-576460752303423488 ≤ n) && decide (n ≤ 576460752303423487)) := by simp [okN, lo, hi]
theorem mk5_out (n : Int) (h : n < -576460752303423488 ∨ 576460752303423487 < n) : mkW 5 n = 0 ∧ mkE 5 n = 11 := by
  have : okN 5 n = false := by rw [okN5]; simp; omega
  have t : okT 5 = true := by decide
  exact ⟨by simp [mkW, mkOk, this], by simp [mkE, this, t]⟩

theorem Reckon_not (w : World) (what x y : Int) (hi : isInts x y = false) (h0 : 0 ≤ x) (hx : x < 18446744073709551616) (k0 : 0 ≤ y) (hy : y < 18446744073709551616) :
    Calls Tryd.prog 24 #[.int .i64 what, .int .u64 x, .int .u64 y] w fun e w' => e = .returned (.tuple #[.int .u64 (recW what x y), .int .i64 (recE what x y)]) ∧ w' = w := by
  have H := both_any w x y h0 hx k0 hy
  have e1 : recW what x y = 0 := by simp [recW, hi]
  have e2 : recE what x y = 10 := by simp [recE, hi]
  rw [e1, e2]; rw [hi] at H
  clear e1 e2 hi
  generalize ofN x = a at *; generalize ofN y = b at *
  go_enter Tryd.func24, Tryd.ntmps24
  go_wp2_with (first | (go_at_call 34; refine H.mono ?_; rintro e w' ⟨rfl, rfl⟩))
  go_ret2
  exact ⟨rfl, rfl⟩

theorem Reckon_0 (w : World) (x y : Int) (h0 : 0 ≤ x) (hx : x < 18446744073709551616) (k0 : 0 ≤ y) (hy : y < 18446744073709551616) :
    Calls Tryd.prog 24 #[.int .i64 0, .int .u64 x, .int .u64 y] w fun e w' => e = .returned (.tuple #[.int .u64 (recW 0 x y), .int .i64 (recE 0 x y)]) ∧ w' = w := by
  cases hi : isInts x y
  · exact Reckon_not w 0 x y hi h0 hx k0 hy
  have H := both_any w x y h0 hx k0 hy
  have r1 := ofN_range x; have r2 := ofN_range y
  have K := Make_any w 5 (ofN x + ofN y) (by omega) (by omega)
  have O := mk5_out (ofN x + ofN y)
  have e1 : recW 0 x y = mkW 5 (ofN x + ofN y) := by simp [recW, hi]
  have e2 : recE 0 x y = mkE 5 (ofN x + ofN y) := by simp [recE, hi]
  rw [e1, e2]; rw [hi] at H
  clear e1 e2 hi
  generalize ofN x = a at *; generalize ofN y = b at *
  by_cases c : a + b < -576460752303423488 ∨ 576460752303423487 < a + b
  · obtain ⟨e1, e2⟩ := O c
    rw [e1, e2]
    clear e1 e2 O K
    rcases c with c | c
    · go_enter Tryd.func24, Tryd.ntmps24
      go_wp2_with (first | (go_at_call 34; refine H.mono ?_; rintro e w' ⟨rfl, rfl⟩))
      go_ret2
      exact ⟨rfl, rfl⟩
    · go_enter Tryd.func24, Tryd.ntmps24
      go_wp2_with (first | (go_at_call 34; refine H.mono ?_; rintro e w' ⟨rfl, rfl⟩))
      go_ret2
      exact ⟨rfl, rfl⟩
  · have c1 : -576460752303423488 ≤ a + b := by omega
    have c2 : a + b ≤ 576460752303423487 := by omega
    clear c O
    go_enter Tryd.func24, Tryd.ntmps24
    go_wp2_with (first | (go_at_call 34; refine H.mono ?_; rintro e w' ⟨rfl, rfl⟩) | (go_at_call 10; refine K.mono ?_; rintro e w' ⟨rfl, rfl⟩))
    go_ret2
    exact ⟨rfl, rfl⟩

theorem Reckon_1 (w : World) (x y : Int) (h0 : 0 ≤ x) (hx : x < 18446744073709551616) (k0 : 0 ≤ y) (hy : y < 18446744073709551616) :
    Calls Tryd.prog 24 #[.int .i64 1, .int .u64 x, .int .u64 y] w fun e w' => e = .returned (.tuple #[.int .u64 (recW 1 x y), .int .i64 (recE 1 x y)]) ∧ w' = w := by
  cases hi : isInts x y
  · exact Reckon_not w 1 x y hi h0 hx k0 hy
  have H := both_any w x y h0 hx k0 hy
  have r1 := ofN_range x; have r2 := ofN_range y
  have K := Make_any w 5 (ofN x - ofN y) (by omega) (by omega)
  have O := mk5_out (ofN x - ofN y)
  have e1 : recW 1 x y = mkW 5 (ofN x - ofN y) := by simp [recW, hi]
  have e2 : recE 1 x y = mkE 5 (ofN x - ofN y) := by simp [recE, hi]
  rw [e1, e2]; rw [hi] at H
  clear e1 e2 hi
  generalize ofN x = a at *; generalize ofN y = b at *
  by_cases c : a - b < -576460752303423488 ∨ 576460752303423487 < a - b
  · obtain ⟨e1, e2⟩ := O c
    rw [e1, e2]
    clear e1 e2 O K
    rcases c with c | c
    · go_enter Tryd.func24, Tryd.ntmps24
      go_wp2_with (first | (go_at_call 34; refine H.mono ?_; rintro e w' ⟨rfl, rfl⟩))
      go_ret2
      exact ⟨rfl, rfl⟩
    · go_enter Tryd.func24, Tryd.ntmps24
      go_wp2_with (first | (go_at_call 34; refine H.mono ?_; rintro e w' ⟨rfl, rfl⟩))
      go_ret2
      exact ⟨rfl, rfl⟩
  · have c1 : -576460752303423488 ≤ a - b := by omega
    have c2 : a - b ≤ 576460752303423487 := by omega
    clear c O
    go_enter Tryd.func24, Tryd.ntmps24
    go_wp2_with (first | (go_at_call 34; refine H.mono ?_; rintro e w' ⟨rfl, rfl⟩) | (go_at_call 10; refine K.mono ?_; rintro e w' ⟨rfl, rfl⟩))
    go_ret2
    exact ⟨rfl, rfl⟩

/-- A product that wraps is told by its division: for a, b of 60 bits, a not nought. -/
theorem div_tells (a b : Int) (ha : a ≠ 0) (ra : -576460752303423488 ≤ a ∧ a ≤ 576460752303423487) (rb : -576460752303423488 ≤ b ∧ b ≤ 576460752303423487)
    (h : wrap64 ((wrap64 (a * b)).tdiv a) = b) : wrap64 (a * b) = a * b := by
  have hq : -9223372036854775808 ≤ wrap64 (a * b) ∧ wrap64 (a * b) ≤ 9223372036854775807 ∧ ∃ k : Int, wrap64 (a * b) = a * b + k * 18446744073709551616 := by
    refine ⟨by unfold wrap64; omega, by unfold wrap64; omega, -((a * b + 9223372036854775808) / 18446744073709551616), by unfold wrap64; omega⟩
  generalize wrap64 (a * b) = q at *
  obtain ⟨q1, q2, k, hk⟩ := hq
  have hd : (q.tdiv a).natAbs ≤ q.natAbs := by rw [Int.natAbs_tdiv]; exact Nat.div_le_self _ _
  have h2 : q.tdiv a = b := by unfold wrap64 at h; omega
  have hm := Int.mul_tdiv_add_tmod q a
  rw [h2] at hm
  have hl : (q.tmod a).natAbs < a.natAbs := by rw [Int.natAbs_tmod]; exact Nat.mod_lt _ (by omega)
  omega

set_option maxHeartbeats 1000000 in
theorem Reckon_2 (w : World) (x y : Int) (h0 : 0 ≤ x) (hx : x < 18446744073709551616) (k0 : 0 ≤ y) (hy : y < 18446744073709551616) :
    Calls Tryd.prog 24 #[.int .i64 2, .int .u64 x, .int .u64 y] w fun e w' => e = .returned (.tuple #[.int .u64 (recW 2 x y), .int .i64 (recE 2 x y)]) ∧ w' = w := by
  cases hi : isInts x y
  · exact Reckon_not w 2 x y hi h0 hx k0 hy
  have H := both_any w x y h0 hx k0 hy
  have r1 := ofN_range x; have r2 := ofN_range y
  have K := Make_any w 5 (ofN x * ofN y) (by omega) (by omega)
  have O := mk5_out (ofN x * ofN y)
  have e1 : recW 2 x y = mkW 5 (ofN x * ofN y) := by simp [recW, hi]
  have e2 : recE 2 x y = mkE 5 (ofN x * ofN y) := by simp [recE, hi]
  rw [e1, e2]; rw [hi] at H
  clear e1 e2 hi
  generalize ofN x = a at *; generalize ofN y = b at *
  by_cases ha : a = 0
  · subst ha
    rw [Int.zero_mul] at K ⊢
    clear O
    go_enter Tryd.func24, Tryd.ntmps24
    go_wp2_with (first | (go_at_call 34; refine H.mono ?_; rintro e w' ⟨rfl, rfl⟩) | (go_at_call 10; refine K.mono ?_; rintro e w' ⟨rfl, rfl⟩))
    go_ret2
    exact ⟨rfl, rfl⟩
  · have hab : (a != 0) = true := by simpa using ha
    by_cases c : a * b < -9223372036854775808 ∨ 9223372036854775807 < a * b
    · have hne : (wrap64 ((wrap64 (a * b)).tdiv a) != b) = true := by
        rw [bne_iff_ne]
        intro h
        have := div_tells a b ha r1 r2 h
        unfold wrap64 at this; omega
      obtain ⟨e1, e2⟩ := O (by omega)
      rw [e1, e2]
      clear e1 e2 O K c
      go_enter Tryd.func24, Tryd.ntmps24
      go_wp2_with (first | (go_at_call 34; refine H.mono ?_; rintro e w' ⟨rfl, rfl⟩))
      go_ret2
      exact ⟨rfl, rfl⟩
    · have hw : wrap64 (a * b) = a * b := by unfold wrap64; omega
      have hd : (a * b).tdiv a = b := Int.mul_tdiv_cancel_left b ha
      have hne : (wrap64 ((a * b).tdiv a) != b) = false := by
        rw [hd]
        have : wrap64 b = b := by unfold wrap64; omega
        rw [this]; simp
      have c1 : -9223372036854775808 ≤ a * b := by omega
      have c2 : a * b ≤ 9223372036854775807 := by omega
      clear c hw hd
      by_cases c : a * b < -576460752303423488 ∨ 576460752303423487 < a * b
      · obtain ⟨e1, e2⟩ := O c
        rw [e1, e2]
        clear e1 e2 O K
        rcases c with c | c
        · go_enter Tryd.func24, Tryd.ntmps24
          go_wp2_with (first | (go_at_call 34; refine H.mono ?_; rintro e w' ⟨rfl, rfl⟩))
          go_ret2
          exact ⟨rfl, rfl⟩
        · go_enter Tryd.func24, Tryd.ntmps24
          go_wp2_with (first | (go_at_call 34; refine H.mono ?_; rintro e w' ⟨rfl, rfl⟩))
          go_ret2
          exact ⟨rfl, rfl⟩
      · have c1 : -576460752303423488 ≤ a * b := by omega
        have c2 : a * b ≤ 576460752303423487 := by omega
        clear c O
        go_enter Tryd.func24, Tryd.ntmps24
        go_wp2_with (first | (go_at_call 34; refine H.mono ?_; rintro e w' ⟨rfl, rfl⟩) | (go_at_call 10; refine K.mono ?_; rintro e w' ⟨rfl, rfl⟩))
        go_ret2
        exact ⟨rfl, rfl⟩

theorem tdiv_in (a b : Int) (ra : -576460752303423488 ≤ a ∧ a ≤ 576460752303423487) : -576460752303423488 ≤ a.tdiv b ∧ a.tdiv b ≤ 576460752303423488 := by
  have b1 : (a.tdiv b).natAbs ≤ a.natAbs := by rw [Int.natAbs_tdiv]; exact Nat.div_le_self _ _
  omega

set_option maxHeartbeats 1000000 in
theorem Reckon_3 (w : World) (x y : Int) (h0 : 0 ≤ x) (hx : x < 18446744073709551616) (k0 : 0 ≤ y) (hy : y < 18446744073709551616) :
    Calls Tryd.prog 24 #[.int .i64 3, .int .u64 x, .int .u64 y] w fun e w' => e = .returned (.tuple #[.int .u64 (recW 3 x y), .int .i64 (recE 3 x y)]) ∧ w' = w := by
  cases hi : isInts x y
  · exact Reckon_not w 3 x y hi h0 hx k0 hy
  have H := both_any w x y h0 hx k0 hy
  have r1 := ofN_range x; have r2 := ofN_range y
  rw [hi] at H
  by_cases hz : ofN y = 0
  · have e1 : recW 3 x y = 0 := by simp [recW, hi, hz]
    have e2 : recE 3 x y = 12 := by simp [recE, hi, hz]
    rw [e1, e2]; rw [hz] at H
    clear e1 e2 hi hz
    generalize ofN x = a at *
    go_enter Tryd.func24, Tryd.ntmps24
    go_wp2_with (first | (go_at_call 34; refine H.mono ?_; rintro e w' ⟨rfl, rfl⟩))
    go_ret2
    exact ⟨rfl, rfl⟩
  · have K := Make_any w 5 ((ofN x).tdiv (ofN y)) (by omega) (by omega)
    have O := mk5_out ((ofN x).tdiv (ofN y))
    have e1 : recW 3 x y = mkW 5 ((ofN x).tdiv (ofN y)) := by simp [recW, hi, hz]
    have e2 : recE 3 x y = mkE 5 ((ofN x).tdiv (ofN y)) := by simp [recE, hi, hz]
    have hr := tdiv_in (ofN x) (ofN y) r1
    rw [e1, e2]
    clear e1 e2 hi
    generalize ofN x = a at *; generalize ofN y = b at *
    have hzb : (b == 0) = false := by simpa using hz
    by_cases c : a.tdiv b < -576460752303423488 ∨ 576460752303423487 < a.tdiv b
    · obtain ⟨e1, e2⟩ := O c
      rw [e1, e2]
      have c' : 576460752303423487 < a.tdiv b := by omega
      clear e1 e2 O K c
      go_enter Tryd.func24, Tryd.ntmps24
      go_wp2_with (first | (go_at_call 34; refine H.mono ?_; rintro e w' ⟨rfl, rfl⟩))
      go_ret2
      exact ⟨rfl, rfl⟩
    · have c1 : -576460752303423488 ≤ a.tdiv b := by omega
      have c2 : a.tdiv b ≤ 576460752303423487 := by omega
      clear c O
      go_enter Tryd.func24, Tryd.ntmps24
      go_wp2_with (first | (go_at_call 34; refine H.mono ?_; rintro e w' ⟨rfl, rfl⟩) | (go_at_call 10; refine K.mono ?_; rintro e w' ⟨rfl, rfl⟩))
      go_ret2
      exact ⟨rfl, rfl⟩

set_option maxHeartbeats 1000000 in
theorem Reckon_4 (w : World) (x y : Int) (h0 : 0 ≤ x) (hx : x < 18446744073709551616) (k0 : 0 ≤ y) (hy : y < 18446744073709551616) :
    Calls Tryd.prog 24 #[.int .i64 4, .int .u64 x, .int .u64 y] w fun e w' => e = .returned (.tuple #[.int .u64 (recW 4 x y), .int .i64 (recE 4 x y)]) ∧ w' = w := by
  cases hi : isInts x y
  · exact Reckon_not w 4 x y hi h0 hx k0 hy
  have H := both_any w x y h0 hx k0 hy
  have r1 := ofN_range x; have r2 := ofN_range y
  rw [hi] at H
  by_cases hz : ofN y = 0
  · have e1 : recW 4 x y = 0 := by simp [recW, hi, hz]
    have e2 : recE 4 x y = 12 := by simp [recE, hi, hz]
    rw [e1, e2]; rw [hz] at H
    clear e1 e2 hi hz
    generalize ofN x = a at *
    go_enter Tryd.func24, Tryd.ntmps24
    go_wp2_with (first | (go_at_call 34; refine H.mono ?_; rintro e w' ⟨rfl, rfl⟩))
    go_ret2
    exact ⟨rfl, rfl⟩
  · have e1 : recW 4 x y = mkW 5 ((ofN x).tmod (ofN y)) := by simp [recW, hi, hz]
    have e2 : recE 4 x y = mkE 5 ((ofN x).tmod (ofN y)) := by simp [recE, hi, hz]
    have hr := tdiv_in (ofN x) (ofN y) r1
    have hm := Int.mul_tdiv_add_tmod (ofN x) (ofN y)
    have hl : ((ofN x).tmod (ofN y)).natAbs ≤ (ofN x).natAbs := by rw [Int.natAbs_tmod]; exact Nat.mod_le _ _
    have hp : ((ofN y) * (ofN x).tdiv (ofN y)) = ofN x - (ofN x).tmod (ofN y) := by omega
    have K := Make_any w 5 (ofN x - ofN y * (ofN x).tdiv (ofN y)) (by omega) (by omega)
    have hs : (ofN x).tmod (ofN y) = ofN x - ofN y * (ofN x).tdiv (ofN y) := by omega
    rw [e1, e2, hs]
    have q1 : -1152921504606846976 ≤ ofN y * (ofN x).tdiv (ofN y) ∧ ofN y * (ofN x).tdiv (ofN y) ≤ 1152921504606846976 := by omega
    have hl2 : ((ofN x).tmod (ofN y)).natAbs < (ofN y).natAbs := by rw [Int.natAbs_tmod]; exact Nat.mod_lt _ (by omega)
    have q2 : -576460752303423488 ≤ ofN x - ofN y * (ofN x).tdiv (ofN y) ∧ ofN x - ofN y * (ofN x).tdiv (ofN y) ≤ 576460752303423487 := by omega
    clear e1 e2 hi hm hl hl2 hp hs
    generalize ofN x = a at *; generalize ofN y = b at *
    have hzb : (b == 0) = false := by simpa using hz
    go_enter Tryd.func24, Tryd.ntmps24
    go_wp2_with (first | (go_at_call 34; refine H.mono ?_; rintro e w' ⟨rfl, rfl⟩) | (go_at_call 10; refine K.mono ?_; rintro e w' ⟨rfl, rfl⟩))
    go_ret2
    exact ⟨rfl, rfl⟩
end Go.Proofs.YticlgmlhkkimkaaDoor.Rd
