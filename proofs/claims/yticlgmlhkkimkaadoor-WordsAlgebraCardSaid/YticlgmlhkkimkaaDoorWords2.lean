/-
  THE WALKS of package words, the second half: what is reckoned with two words comes to WordsPure's number, and leaves the world as it is.
-/
import Derived.Test.YticlgmlhkkimkaaDoorWords
import Derived.Lib.Mul64
import Derived.Laws.Bits64b
set_option linter.unusedSimpArgs false
set_option linter.unusedVariables false
namespace Go.Proofs.YticlgmlhkkimkaaDoor.Wd
open Go.RowKit

theorem both_any (w : World) (x y : Int) (h0 : 0 ≤ x) (hx : x < 18446744073709551616) (k0 : 0 ≤ y) (hy : y < 18446744073709551616) (hb : Bnd w) :
    Calls Tryd.prog 31 #[.int .u64 x, .int .u64 y] w fun e w' => e = .returned (.tuple #[.int .i64 (ofN x), .int .i64 (ofN y), .bool (isInts x y)]) ∧ w' = w := by
  have H := Of_any w x h0 hx hb
  have K := Of_any w y k0 hy hb
  unfold isInts
  clear hb
  by_cases c : ofT x = 5
  · have cb : (ofT x == 5) = true := by simp [c]
    have cd : decide (ofT x = 5) = true := by simp [c]
    rw [cd, Bool.true_and]
    generalize ofT x = a at *; generalize ofN x = b at *; generalize ofOk x = d at *
    have e : decide (ofT y = 5) = (ofT y == 5) := by rw [Bool.eq_iff_iff]; simp
    rw [e]
    generalize ofT y = a' at *; generalize ofN y = b' at *; generalize ofOk y = d' at *
    clear c e cd
    go_enter Tryd.func31, Tryd.ntmps31
    go_wp2_with (first | (go_at_call 13; with_reducible refine H.mono ?_; rintro e w' ⟨rfl, rfl⟩) | (go_at_call 13; with_reducible refine K.mono ?_; rintro e w' ⟨rfl, rfl⟩))
    go_ret3
    exact ⟨rfl, rfl⟩
  · have cb : (ofT x == 5) = false := by simp [c]
    have cd : decide (ofT x = 5) = false := by simp [c]
    rw [cd, Bool.false_and]
    generalize ofT x = a at *; generalize ofN x = b at *; generalize ofOk x = d at *
    generalize ofT y = a' at *; generalize ofN y = b' at *; generalize ofOk y = d' at *
    clear c cd
    go_enter Tryd.func31, Tryd.ntmps31
    go_wp2_with (first | (go_at_call 13; with_reducible refine H.mono ?_; rintro e w' ⟨rfl, rfl⟩) | (go_at_call 13; with_reducible refine K.mono ?_; rintro e w' ⟨rfl, rfl⟩))
    go_ret3
    exact ⟨rfl, rfl⟩
theorem Add_any (w : World) (x y : Int) (h0 : 0 ≤ x) (hx : x < 18446744073709551616) (k0 : 0 ≤ y) (hy : y < 18446744073709551616) (hb : Bnd w) :
    Calls Tryd.prog 19 #[.int .u64 x, .int .u64 y] w fun e w' => e = .returned (.tuple #[.int .u64 (recW 0 x y), .int .i64 (recE 0 x y)]) ∧ w' = w := by
  have H := both_any w x y h0 hx k0 hy hb
  have r1 := ofN_range x; have r2 := ofN_range y
  have K := Int_any w (ofN x + ofN y) hb
  clear hb
  cases hi : isInts x y
  · have e1 : recW 0 x y = 0 := by simp [recW, hi]
    have e2 : recE 0 x y = 10 := by simp [recE, hi]
    rw [e1, e2]; rw [hi] at H
    clear e1 e2 hi
    generalize ofN x = a at *; generalize ofN y = b at *
    go_enter Tryd.func19, Tryd.ntmps19
    go_wp2_with (go_at_call 31; refine H.mono ?_; rintro e w' ⟨rfl, rfl⟩)
    go_ret2
    exact ⟨rfl, rfl⟩
  · have e1 : recW 0 x y = mkW 5 (ofN x + ofN y) := by simp [recW, hi]
    have e2 : recE 0 x y = mkE 5 (ofN x + ofN y) := by simp [recE, hi]
    rw [e1, e2]; rw [hi] at H
    clear e1 e2 hi
    generalize ofN x = a at *; generalize ofN y = b at *
    go_enter Tryd.func19, Tryd.ntmps19
    go_wp2_with (first | (go_at_call 31; refine H.mono ?_; rintro e w' ⟨rfl, rfl⟩) | (go_at_call 11; refine K.mono ?_; rintro e w' ⟨rfl, rfl⟩))
    go_ret2
    exact ⟨rfl, rfl⟩
theorem Sub_any (w : World) (x y : Int) (h0 : 0 ≤ x) (hx : x < 18446744073709551616) (k0 : 0 ≤ y) (hy : y < 18446744073709551616) (hb : Bnd w) :
    Calls Tryd.prog 20 #[.int .u64 x, .int .u64 y] w fun e w' => e = .returned (.tuple #[.int .u64 (recW 1 x y), .int .i64 (recE 1 x y)]) ∧ w' = w := by
  have H := both_any w x y h0 hx k0 hy hb
  have r1 := ofN_range x; have r2 := ofN_range y
  have K := Int_any w (ofN x - ofN y) hb
  clear hb
  cases hi : isInts x y
  · have e1 : recW 1 x y = 0 := by simp [recW, hi]
    have e2 : recE 1 x y = 10 := by simp [recE, hi]
    rw [e1, e2]; rw [hi] at H
    clear e1 e2 hi
    generalize ofN x = a at *; generalize ofN y = b at *
    go_enter Tryd.func20, Tryd.ntmps20
    go_wp2_with (go_at_call 31; refine H.mono ?_; rintro e w' ⟨rfl, rfl⟩)
    go_ret2
    exact ⟨rfl, rfl⟩
  · have e1 : recW 1 x y = mkW 5 (ofN x - ofN y) := by simp [recW, hi]
    have e2 : recE 1 x y = mkE 5 (ofN x - ofN y) := by simp [recE, hi]
    rw [e1, e2]; rw [hi] at H
    clear e1 e2 hi
    generalize ofN x = a at *; generalize ofN y = b at *
    go_enter Tryd.func20, Tryd.ntmps20
    go_wp2_with (first | (go_at_call 31; refine H.mono ?_; rintro e w' ⟨rfl, rfl⟩) | (go_at_call 11; refine K.mono ?_; rintro e w' ⟨rfl, rfl⟩))
    go_ret2
    exact ⟨rfl, rfl⟩
theorem Quo_any (w : World) (x y : Int) (h0 : 0 ≤ x) (hx : x < 18446744073709551616) (k0 : 0 ≤ y) (hy : y < 18446744073709551616) (hb : Bnd w) :
    Calls Tryd.prog 22 #[.int .u64 x, .int .u64 y] w fun e w' => e = .returned (.tuple #[.int .u64 (recW 3 x y), .int .i64 (recE 3 x y)]) ∧ w' = w := by
  have H := both_any w x y h0 hx k0 hy hb
  have r1 := ofN_range x; have r2 := ofN_range y
  have K := Int_any w ((ofN x).tdiv (ofN y)) hb
  clear hb
  cases hi : isInts x y
  · have e1 : recW 3 x y = 0 := by simp [recW, hi]
    have e2 : recE 3 x y = 10 := by simp [recE, hi]
    rw [e1, e2]; rw [hi] at H
    clear e1 e2 hi
    generalize ofN x = a at *; generalize ofN y = b at *
    go_enter Tryd.func22, Tryd.ntmps22
    go_wp2_with (go_at_call 31; refine H.mono ?_; rintro e w' ⟨rfl, rfl⟩)
    go_ret2
    exact ⟨rfl, rfl⟩
  · rw [hi] at H
    by_cases hz : ofN y = 0
    · have e1 : recW 3 x y = 0 := by simp [recW, hi, hz]
      have e2 : recE 3 x y = 12 := by simp [recE, hi, hz]
      rw [e1, e2]; rw [hz] at H
      clear e1 e2 hi K hz
      generalize ofN x = a at *
      go_enter Tryd.func22, Tryd.ntmps22
      go_wp2_with (first | (go_at_call 31; refine H.mono ?_; rintro e w' ⟨rfl, rfl⟩))
      go_ret2
      exact ⟨rfl, rfl⟩
    · have e1 : recW 3 x y = mkW 5 ((ofN x).tdiv (ofN y)) := by simp [recW, hi, hz]
      have e2 : recE 3 x y = mkE 5 ((ofN x).tdiv (ofN y)) := by simp [recE, hi, hz]
      have hr : IntKind.i64.wrap ((ofN x).tdiv (ofN y)) = (ofN x).tdiv (ofN y) := by
        refine IntWalk.i64_in _ ?_
        have b1 : ((ofN x).tdiv (ofN y)).natAbs ≤ (ofN x).natAbs := by rw [Int.natAbs_tdiv]; exact Nat.div_le_self _ _
        omega
      rw [e1, e2]
      clear e1 e2 hi
      generalize ofN x = a at *; generalize ofN y = b at *
      have hzb : (b == 0) = false := by simpa using hz
      rw [← hr] at K ⊢
      clear hr
      go_enter Tryd.func22, Tryd.ntmps22
      go_wp2_with (first | (go_at_call 31; refine H.mono ?_; rintro e w' ⟨rfl, rfl⟩) | (go_at_call 11; rw [IntWalk.i64_left] at K; refine K.mono ?_; rintro e w' ⟨rfl, rfl⟩))
      go_ret2
      rw [IntWalk.i64_left]
      exact ⟨rfl, rfl⟩
theorem Rem_any (w : World) (x y : Int) (h0 : 0 ≤ x) (hx : x < 18446744073709551616) (k0 : 0 ≤ y) (hy : y < 18446744073709551616) (hb : Bnd w) :
    Calls Tryd.prog 23 #[.int .u64 x, .int .u64 y] w fun e w' => e = .returned (.tuple #[.int .u64 (recW 4 x y), .int .i64 (recE 4 x y)]) ∧ w' = w := by
  have H := both_any w x y h0 hx k0 hy hb
  have r1 := ofN_range x; have r2 := ofN_range y
  have K := Int_any w ((ofN x).tmod (ofN y)) hb
  clear hb
  cases hi : isInts x y
  · have e1 : recW 4 x y = 0 := by simp [recW, hi]
    have e2 : recE 4 x y = 10 := by simp [recE, hi]
    rw [e1, e2]; rw [hi] at H
    clear e1 e2 hi
    generalize ofN x = a at *; generalize ofN y = b at *
    go_enter Tryd.func23, Tryd.ntmps23
    go_wp2_with (go_at_call 31; refine H.mono ?_; rintro e w' ⟨rfl, rfl⟩)
    go_ret2
    exact ⟨rfl, rfl⟩
  · rw [hi] at H
    by_cases hz : ofN y = 0
    · have e1 : recW 4 x y = 0 := by simp [recW, hi, hz]
      have e2 : recE 4 x y = 12 := by simp [recE, hi, hz]
      rw [e1, e2]; rw [hz] at H
      clear e1 e2 hi K hz
      generalize ofN x = a at *
      go_enter Tryd.func23, Tryd.ntmps23
      go_wp2_with (first | (go_at_call 31; refine H.mono ?_; rintro e w' ⟨rfl, rfl⟩))
      go_ret2
      exact ⟨rfl, rfl⟩
    · have e1 : recW 4 x y = mkW 5 ((ofN x).tmod (ofN y)) := by simp [recW, hi, hz]
      have e2 : recE 4 x y = mkE 5 ((ofN x).tmod (ofN y)) := by simp [recE, hi, hz]
      rw [e1, e2]
      clear e1 e2 hi
      generalize ofN x = a at *; generalize ofN y = b at *
      have hzb : (b == 0) = false := by simpa using hz
      go_enter Tryd.func23, Tryd.ntmps23
      go_wp2_with (first | (go_at_call 31; refine H.mono ?_; rintro e w' ⟨rfl, rfl⟩) | (go_at_call 11; refine K.mono ?_; rintro e w' ⟨rfl, rfl⟩))
      go_ret2
      exact ⟨rfl, rfl⟩
theorem Less_any (w : World) (x y : Int) (h0 : 0 ≤ x) (hx : x < 18446744073709551616) (k0 : 0 ≤ y) (hy : y < 18446744073709551616) (hb : Bnd w) :
    Calls Tryd.prog 25 #[.int .u64 x, .int .u64 y] w fun e w' => e = .returned (.tuple #[.bool (isInts x y && decide (ofN x < ofN y)), .int .i64 (if isInts x y = true then 0 else 10)]) ∧ w' = w := by
  have H := both_any w x y h0 hx k0 hy hb
  have r1 := ofN_range x; have r2 := ofN_range y
  clear hb
  cases hi : isInts x y
  · rw [if_neg (by decide), Bool.false_and]; rw [hi] at H
    clear hi
    generalize ofN x = a at *; generalize ofN y = b at *
    go_enter Tryd.func25, Tryd.ntmps25
    go_wp2_with (go_at_call 31; refine H.mono ?_; rintro e w' ⟨rfl, rfl⟩)
    go_ret2
    exact ⟨rfl, rfl⟩
  · rw [if_pos rfl, Bool.true_and]; rw [hi] at H
    clear hi
    generalize ofN x = a at *; generalize ofN y = b at *
    go_enter Tryd.func25, Tryd.ntmps25
    go_wp2_with (go_at_call 31; refine H.mono ?_; rintro e w' ⟨rfl, rfl⟩)
    go_ret2
    exact ⟨rfl, rfl⟩
namespace M64
theorem maskN (a : Nat) (ha : a < 18446744073709551616) : bits .and .u64 (a : Int) 4294967295 = ((a % 4294967296 : Nat) : Int) := by
  have h := bits_and_u64_nat a 4294967295 ha (by omega)
  have e : a &&& 4294967295 = a % 4294967296 := Nat.and_two_pow_sub_one_eq_mod a 32
  rw [e] at h
  exact h
theorem divN (a : Nat) : (a : Int) / 4294967296 = ((a / 4294967296 : Nat) : Int) := by omega
theorem mulN (a b : Nat) : (a : Int) * (b : Int) = ((a * b : Nat) : Int) := (Int.natCast_mul a b).symm
theorem addN (a b : Nat) : (a : Int) + (b : Int) = ((a + b : Nat) : Int) := (Int.natCast_add a b).symm
theorem wrapN (a : Nat) (ha : a < 18446744073709551616) : IntKind.u64.wrap (a : Int) = (a : Int) := by rw [IntKind.wrap_u64]; omega
theorem wrapM (a : Nat) : IntKind.u64.wrap (a : Int) = ((a % 18446744073709551616 : Nat) : Int) := by rw [IntKind.wrap_u64]; omega
end M64
set_option maxHeartbeats 1000000 in
theorem Mul64_any (x y : Nat) (hx : x < 18446744073709551616) (hy : y < 18446744073709551616) (w : World) :
    Calls Tryd.prog 32 #[.int .u64 x, .int .u64 y] w fun e w' => e = .returned (.tuple #[.int .u64 ((x * y / 18446744073709551616 : Nat) : Int), .int .u64 ((x * y % 18446744073709551616 : Nat) : Int)]) ∧ w' = w := by
  obtain ⟨bd, bt, bw, hhi⟩ := Lib.mul64_hi x y hx hy
  have ba := Lib.half_mul_le (a := x / 4294967296) (b := y / 4294967296) (by omega) (by omega)
  have bb := Lib.half_mul_le (a := x / 4294967296) (b := y % 4294967296) (by omega) (by omega)
  have bc := Lib.half_mul_le (a := x % 4294967296) (b := y / 4294967296) (by omega) (by omega)
  have ba' : x / 4294967296 * (y / 4294967296) < 18446744073709551616 := by omega
  have bb' : x / 4294967296 * (y % 4294967296) < 18446744073709551616 := by omega
  have bc' : x % 4294967296 * (y / 4294967296) < 18446744073709551616 := by omega
  have bh1 : x / 4294967296 * (y / 4294967296) + (x / 4294967296 * (y % 4294967296) + x % 4294967296 * (y % 4294967296) / 4294967296) / 4294967296 < 18446744073709551616 := by omega
  have bh : x / 4294967296 * (y / 4294967296) + (x / 4294967296 * (y % 4294967296) + x % 4294967296 * (y % 4294967296) / 4294967296) / 4294967296 + ((x / 4294967296 * (y % 4294967296) + x % 4294967296 * (y % 4294967296) / 4294967296) % 4294967296 + x % 4294967296 * (y / 4294967296)) / 4294967296 < 18446744073709551616 := by omega
  go_enter Tryd.func32, Tryd.ntmps32
  go_wp2
  simp only [M64.maskN x hx, M64.maskN y hy, M64.divN, M64.mulN, M64.addN, M64.wrapN _ bd, M64.wrapN _ bb', M64.wrapN _ bt, M64.maskN _ bt, M64.wrapN _ bc', M64.wrapN _ bw, M64.wrapN _ ba', M64.wrapN _ bh1, M64.wrapN _ bh, M64.wrapM (x * y)]
  rw [hhi]
  go_ret2
  exact ⟨rfl, rfl⟩
theorem size_any (x : Int) (h0 : -576460752303423488 ≤ x) (h1 : x ≤ 576460752303423487) (w : World) :
    Calls Tryd.prog 33 #[.int .i64 x] w fun e w' => e = .returned (.int .u64 (x.natAbs : Int)) ∧ w' = w := by
  by_cases hx : x < 0
  · have e : ((x.natAbs : Nat) : Int) = -x := by omega
    rw [e]; clear e
    go_enter Tryd.func33, Tryd.ntmps33
    go_wp2
    go_ret
    exact ⟨rfl, rfl⟩
  · have e : ((x.natAbs : Nat) : Int) = x := by omega
    rw [e]; clear e
    go_enter Tryd.func33, Tryd.ntmps33
    go_wp2
    go_ret
    exact ⟨rfl, rfl⟩
/-- A product is a number of the language, or its size tells that it is none. -/
theorem mul_fits (a b : Int) : (a * b).natAbs = a.natAbs * b.natAbs := Int.natAbs_mul a b
set_option maxHeartbeats 1000000 in
theorem Mul_any (w : World) (x y : Int) (h0 : 0 ≤ x) (hx : x < 18446744073709551616) (k0 : 0 ≤ y) (hy : y < 18446744073709551616) (hb : Bnd w) :
    Calls Tryd.prog 21 #[.int .u64 x, .int .u64 y] w fun e w' => e = .returned (.tuple #[.int .u64 (recW 2 x y), .int .i64 (recE 2 x y)]) ∧ w' = w := by
  have H := both_any w x y h0 hx k0 hy hb
  have r1 := ofN_range x; have r2 := ofN_range y
  have K := Int_any w (ofN x * ofN y) hb
  have S1 := size_any (ofN x) r1.1 r1.2 w
  have S2 := size_any (ofN y) r2.1 r2.2 w
  have M := Mul64_any (ofN x).natAbs (ofN y).natAbs (by omega) (by omega) w
  have hm := mul_fits (ofN x) (ofN y)
  clear hb
  cases hi : isInts x y
  · have e1 : recW 2 x y = 0 := by simp [recW, hi]
    have e2 : recE 2 x y = 10 := by simp [recE, hi]
    rw [e1, e2]; rw [hi] at H
    clear e1 e2 hi hm K S1 S2 M
    generalize ofN x = a at *; generalize ofN y = b at *
    go_enter Tryd.func21, Tryd.ntmps21
    go_wp2_with (go_at_call 31; refine H.mono ?_; rintro e w' ⟨rfl, rfl⟩)
    go_ret2
    exact ⟨rfl, rfl⟩
  · rw [hi] at H
    have e1 : recW 2 x y = mkW 5 (ofN x * ofN y) := by simp [recW, hi]
    have e2 : recE 2 x y = mkE 5 (ofN x * ofN y) := by simp [recE, hi]
    rw [e1, e2]
    clear e1 e2 hi
    rw [← hm] at M
    by_cases hbig : (ofN x * ofN y).natAbs ≤ 1152921504606846976
    · have m1 : (((ofN x * ofN y).natAbs / 18446744073709551616 : Nat) : Int) = 0 := by omega
      have m2 : (((ofN x * ofN y).natAbs % 18446744073709551616 : Nat) : Int) = ((ofN x * ofN y).natAbs : Int) := by omega
      rw [m1, m2] at M
      obtain ⟨p, hp⟩ : ∃ p : Int, p = ((ofN x * ofN y).natAbs : Int) := ⟨_, rfl⟩
      rw [← hp] at M
      have q1 : p ≤ 1152921504606846976 := by omega
      have q2 : -1152921504606846976 ≤ ofN x * ofN y ∧ ofN x * ofN y ≤ 1152921504606846976 := by omega
      clear m1 m2 hm hbig hp
      generalize ofN x = a at *; generalize ofN y = b at *
      go_enter Tryd.func21, Tryd.ntmps21
      go_wp2_with (first | (go_at_call 31; refine H.mono ?_; rintro e w' ⟨rfl, rfl⟩) | (go_at_call 33; with_reducible refine S1.mono ?_; rintro e w' ⟨rfl, rfl⟩) | (go_at_call 33; with_reducible refine S2.mono ?_; rintro e w' ⟨rfl, rfl⟩) | (go_at_call 32; refine M.mono ?_; rintro e w' ⟨rfl, rfl⟩) | (go_at_call 11; refine K.mono ?_; rintro e w' ⟨rfl, rfl⟩))
      go_ret2
      exact ⟨rfl, rfl⟩
    · have e1 : mkW 5 (ofN x * ofN y) = 0 := by
        have : okN 5 (ofN x * ofN y) = false := by simp [okN, lo, hi]; omega
        simp [mkW, mkOk, this]
      have e2 : mkE 5 (ofN x * ofN y) = 11 := by
        have : okN 5 (ofN x * ofN y) = false := by simp [okN, lo, hi]; omega
        have t : okT 5 = true := by decide
        simp [mkE, this, t]
      rw [e1, e2]
      have hle : (ofN x * ofN y).natAbs ≤ 576460752303423488 * 576460752303423488 := by
        rw [hm]; exact Nat.mul_le_mul (by omega) (by omega)
      obtain ⟨p, hp⟩ : ∃ p : Nat, p = (ofN x * ofN y).natAbs := ⟨_, rfl⟩
      rw [← hp] at M hbig hle
      clear e1 e2 hm hp K
      generalize ofN x = a at *; generalize ofN y = b at *
      by_cases hq : p < 18446744073709551616
      · have m1 : ((p / 18446744073709551616 : Nat) : Int) = 0 := by omega
        have m2 : ((p % 18446744073709551616 : Nat) : Int) = (p : Int) := by omega
        rw [m1, m2] at M
        have q1 : 1152921504606846976 < (p : Int) := by omega
        clear m1 m2 hq hle hbig
        go_enter Tryd.func21, Tryd.ntmps21
        go_wp2_with (first | (go_at_call 31; refine H.mono ?_; rintro e w' ⟨rfl, rfl⟩) | (go_at_call 33; with_reducible refine S1.mono ?_; rintro e w' ⟨rfl, rfl⟩) | (go_at_call 33; with_reducible refine S2.mono ?_; rintro e w' ⟨rfl, rfl⟩) | (go_at_call 32; refine M.mono ?_; rintro e w' ⟨rfl, rfl⟩))
        go_ret2
        exact ⟨rfl, rfl⟩
      · obtain ⟨u, hu⟩ : ∃ u : Int, u = ((p / 18446744073709551616 : Nat) : Int) := ⟨_, rfl⟩
        obtain ⟨v, hv⟩ : ∃ v : Int, v = ((p % 18446744073709551616 : Nat) : Int) := ⟨_, rfl⟩
        rw [← hu, ← hv] at M
        have q1 : (u != 0) = true := by rw [bne_iff_ne]; omega
        clear hu hv hq hle hbig
        go_enter Tryd.func21, Tryd.ntmps21
        go_wp2_with (first | (go_at_call 31; refine H.mono ?_; rintro e w' ⟨rfl, rfl⟩) | (go_at_call 33; with_reducible refine S1.mono ?_; rintro e w' ⟨rfl, rfl⟩) | (go_at_call 33; with_reducible refine S2.mono ?_; rintro e w' ⟨rfl, rfl⟩) | (go_at_call 32; refine M.mono ?_; rintro e w' ⟨rfl, rfl⟩))
        go_ret2
        exact ⟨rfl, rfl⟩
end Go.Proofs.YticlgmlhkkimkaaDoor.Wd
