/-
  THE WALK of dapplelaw01.WordsAlgebra: true for every three numbers.
-/
import Derived.Test.YticlgmlhkkimkaaDoorLaw01
import Derived.Test.YticlgmlhkkimkaaDoorAlgPure
set_option linter.unusedSimpArgs false
set_option linter.unusedVariables false
set_option maxRecDepth 100000
namespace Go.Proofs.YticlgmlhkkimkaaDoor.L01
open Go.RowKit Go.Proofs.YticlgmlhkkimkaaDoor.Wd

set_option maxHeartbeats 1000000 in
theorem shares_any (w : World) (a b c n m k : Int) (ha : Iw a n) (hb' : Iw b m) (hc : Iw c k) (hb : Bnd w) :
    Calls Tryd.prog 27 #[.int .u64 a, .int .u64 b, .int .u64 c] w fun e w' => e = .returned (.bool true) ∧ w' = w := by
  have rs := recW_range 0 b c; have rl := recW_range 2 a b; have rr := recW_range 2 a c
  have A1 := Add_any w b c hb'.2.2.1 hb'.2.2.2.1 hc.2.2.1 hc.2.2.2.1 hb
  have M1 := Mul_any w a (recW 0 b c) ha.2.2.1 ha.2.2.2.1 rs.1 rs.2 hb
  have M2 := Mul_any w a b ha.2.2.1 ha.2.2.2.1 hb'.2.2.1 hb'.2.2.2.1 hb
  have M3 := Mul_any w a c ha.2.2.1 ha.2.2.2.1 hc.2.2.1 hc.2.2.2.1 hb
  have A2 := Add_any w (recW 2 a b) (recW 2 a c) rl.1 rl.2 rr.1 rr.2 hb
  have S := share ha hb' hc
  clear ha hb' hc hb rs rl rr
  generalize recW 0 (recW 2 a b) (recW 2 a c) = both at *
  generalize recE 0 (recW 2 a b) (recW 2 a c) = bothE at *
  generalize recW 2 a (recW 0 b c) = one at *
  generalize recE 2 a (recW 0 b c) = oneE at *
  generalize recW 0 b c = sum at *
  generalize recE 0 b c = sumE at *
  generalize recW 2 a b = left at *
  generalize recE 2 a b = leftE at *
  generalize recW 2 a c = right at *
  generalize recE 2 a c = rightE at *
  by_cases c1 : sumE = 0
  · subst c1
    by_cases c2 : oneE = 0
    · subst c2
      by_cases c3 : leftE = 0
      · subst c3
        by_cases c4 : rightE = 0
        · subst c4
          obtain ⟨rfl, rfl⟩ := S rfl rfl rfl rfl
          clear S
          go_enter Tryd.func27, Tryd.ntmps27
          go_wp2_with (first | (go_at_call 19; with_reducible refine A1.mono ?_; rintro e w' ⟨rfl, rfl⟩) | (go_at_call 21; with_reducible refine M1.mono ?_; rintro e w' ⟨rfl, rfl⟩) | (go_at_call 21; with_reducible refine M2.mono ?_; rintro e w' ⟨rfl, rfl⟩) | (go_at_call 21; with_reducible refine M3.mono ?_; rintro e w' ⟨rfl, rfl⟩) | (go_at_call 19; with_reducible refine A2.mono ?_; rintro e w' ⟨rfl, rfl⟩))
          go_ret
          exact ⟨by simp, rfl⟩
        · have c4' : (rightE != 0) = true := by simpa using c4
          clear S c4
          go_enter Tryd.func27, Tryd.ntmps27
          go_wp2_with (first | (go_at_call 19; with_reducible refine A1.mono ?_; rintro e w' ⟨rfl, rfl⟩) | (go_at_call 21; with_reducible refine M1.mono ?_; rintro e w' ⟨rfl, rfl⟩) | (go_at_call 21; with_reducible refine M2.mono ?_; rintro e w' ⟨rfl, rfl⟩) | (go_at_call 21; with_reducible refine M3.mono ?_; rintro e w' ⟨rfl, rfl⟩) | (go_at_call 19; with_reducible refine A2.mono ?_; rintro e w' ⟨rfl, rfl⟩))
          go_ret
          exact ⟨rfl, rfl⟩
      · have c3' : (leftE != 0) = true := by simpa using c3
        clear S c3
        go_enter Tryd.func27, Tryd.ntmps27
        go_wp2_with (first | (go_at_call 19; with_reducible refine A1.mono ?_; rintro e w' ⟨rfl, rfl⟩) | (go_at_call 21; with_reducible refine M1.mono ?_; rintro e w' ⟨rfl, rfl⟩) | (go_at_call 21; with_reducible refine M2.mono ?_; rintro e w' ⟨rfl, rfl⟩) | (go_at_call 21; with_reducible refine M3.mono ?_; rintro e w' ⟨rfl, rfl⟩) | (go_at_call 19; with_reducible refine A2.mono ?_; rintro e w' ⟨rfl, rfl⟩))
        go_ret
        exact ⟨rfl, rfl⟩
    · have c2' : (oneE != 0) = true := by simpa using c2
      clear S c2
      go_enter Tryd.func27, Tryd.ntmps27
      go_wp2_with (first | (go_at_call 19; with_reducible refine A1.mono ?_; rintro e w' ⟨rfl, rfl⟩) | (go_at_call 21; with_reducible refine M1.mono ?_; rintro e w' ⟨rfl, rfl⟩) | (go_at_call 21; with_reducible refine M2.mono ?_; rintro e w' ⟨rfl, rfl⟩) | (go_at_call 21; with_reducible refine M3.mono ?_; rintro e w' ⟨rfl, rfl⟩) | (go_at_call 19; with_reducible refine A2.mono ?_; rintro e w' ⟨rfl, rfl⟩))
      go_ret
      exact ⟨rfl, rfl⟩
  · have c1' : (sumE != 0) = true := by simpa using c1
    clear S c1
    go_enter Tryd.func27, Tryd.ntmps27
    go_wp2_with (first | (go_at_call 19; with_reducible refine A1.mono ?_; rintro e w' ⟨rfl, rfl⟩) | (go_at_call 21; with_reducible refine M1.mono ?_; rintro e w' ⟨rfl, rfl⟩) | (go_at_call 21; with_reducible refine M2.mono ?_; rintro e w' ⟨rfl, rfl⟩) | (go_at_call 21; with_reducible refine M3.mono ?_; rintro e w' ⟨rfl, rfl⟩) | (go_at_call 19; with_reducible refine A2.mono ?_; rintro e w' ⟨rfl, rfl⟩))
    go_ret
    exact ⟨rfl, rfl⟩

theorem Of_iw (w : World) (x n : Int) (h : Iw x n) (hb : Bnd w) :
    Calls Tryd.prog 13 #[.int .u64 x] w fun e w' => e = .returned (.tuple #[.int .u8 5, .int .i64 n, .bool true]) ∧ w' = w := by
  have := Of_any w x h.2.2.1 h.2.2.2.1 hb
  have ho : ofOk x = true := by
    cases o : ofOk x
    · have := h.1; simp [ofT, o] at this
    · rfl
  rw [h.1, h.2.1, ho] at this
  exact this
set_option maxHeartbeats 1000000 in
theorem divides_any (w : World) (a b n m : Int) (ha : Iw a n) (hb' : Iw b m) (hb : Bnd w) :
    Calls Tryd.prog 28 #[.int .u64 a, .int .u64 b] w fun e w' => e = .returned (.bool true) ∧ w' = w := by
  have Q := Quo_any w a b ha.2.2.1 ha.2.2.2.1 hb'.2.2.1 hb'.2.2.2.1 hb
  have R := Rem_any w a b ha.2.2.1 ha.2.2.2.1 hb'.2.2.1 hb'.2.2.2.1 hb
  have O1 := Of_iw w b m hb' hb
  have O3 := Of_iw w a n ha hb
  have hn := ha.inR; have hm := hb'.inR
  by_cases hz : m = 0
  · subst hz
    obtain ⟨z1, z2⟩ := rec34z ha hb'
    rw [z1] at Q; rw [z2] at R
    clear O3 hn hm z1 z2
    go_enter Tryd.func28, Tryd.ntmps28
    go_wp2_with (first | (go_at_call 22; with_reducible refine Q.mono ?_; rintro e w' ⟨rfl, rfl⟩) | (go_at_call 23; with_reducible refine R.mono ?_; rintro e w' ⟨rfl, rfl⟩) | (go_at_call 13; with_reducible refine O1.mono ?_; rintro e w' ⟨rfl, rfl⟩))
    go_ret
    exact ⟨rfl, rfl⟩
  · have hzb : (m == 0) = false := by simpa using hz
    obtain ⟨q1, q2⟩ := rec3 ha hb' hz
    obtain ⟨r1, r2⟩ := rec4 ha hb' hz
    have hr := tmod_inR n m hn hm hz
    have hrw := iw_mk _ hr
    rw [q1, q2] at Q; rw [r1, r2, mkE5 _ hr] at R
    have O2 := Of_iw w _ _ hrw hb
    by_cases hq : inR (n.tdiv m)
    · rw [mkE5 _ hq] at Q
      have hqw := iw_mk _ hq
      have M := Mul_any w _ b hqw.2.2.1 hqw.2.2.2.1 hb'.2.2.1 hb'.2.2.2.1 hb
      obtain ⟨p1, p2⟩ := rec2 hqw hb'
      have hsum := Int.mul_tdiv_add_tmod n m
      have hp : n.tdiv m * m = n - n.tmod m := by rw [Int.mul_comm]; omega
      have hpr : inR (n - n.tmod m) := by
        have s := tmod_sign n m
        have h1 : (n.tmod m).natAbs ≤ n.natAbs := by rw [Int.natAbs_tmod]; exact Nat.mod_le _ _
        unfold inR at *; omega
      rw [p1, p2, hp, mkE5 _ hpr] at M
      have hpw := iw_mk _ hpr
      have A := Add_any w _ _ hpw.2.2.1 hpw.2.2.2.1 hrw.2.2.1 hrw.2.2.2.1 hb
      obtain ⟨s1, s2⟩ := rec0 hpw hrw
      have hs : n - n.tmod m + n.tmod m = n := by omega
      rw [s1, s2, hs, mkE5 _ hn, ← ha.2.2.2.2] at A
      have hl : (n.tmod m).natAbs < m.natAbs := by rw [Int.natAbs_tmod]; exact Nat.mod_lt _ (by omega)
      have hsg := tmod_sign n m
      clear q1 q2 r1 r2 hrw hqw p1 p2 hsum hp hpw s1 s2 hs hpr hq hb hb' ha
      generalize mkW 5 (n.tdiv m) = wq at *
      generalize mkW 5 (n - n.tmod m) = wp at *
      generalize mkW 5 (n.tmod m) = wr at *
      generalize n.tmod m = r at *
      have hfin : Hid ((r == 0 || decide (r < 0) == decide (n < 0)) = true) := by
        show _ = _
        rcases hsg with h | h
        · simp [h]
        · simp [h]
      unfold inR at *
      clear hsg
      go_enter Tryd.func28, Tryd.ntmps28
      go_wp2_with (first | (go_at_call 22; with_reducible refine Q.mono ?_; rintro e w' ⟨rfl, rfl⟩) | (go_at_call 23; with_reducible refine R.mono ?_; rintro e w' ⟨rfl, rfl⟩) | (go_at_call 13; with_reducible refine O1.mono ?_; rintro e w' ⟨rfl, rfl⟩) | (go_at_call 13; with_reducible refine O2.mono ?_; rintro e w' ⟨rfl, rfl⟩) | (go_at_call 13; with_reducible refine O3.mono ?_; rintro e w' ⟨rfl, rfl⟩) | (go_at_call 21; with_reducible refine M.mono ?_; rintro e w' ⟨rfl, rfl⟩) | (go_at_call 19; with_reducible refine A.mono ?_; rintro e w' ⟨rfl, rfl⟩))
      all_goals go_ret
      all_goals exact ⟨by first | rfl | (rw [hfin.out]; rfl), rfl⟩
    · obtain ⟨rfl, hr0⟩ := tdiv_out n m hn hm hz hq
      have hE : mkE 5 (n.tdiv (-1)) = 11 := by
        rcases mkE5_or (n.tdiv (-1)) with h | h
        · exact absurd ((mkE5_iff _).1 h) hq
        · exact h
      rw [hE] at Q
      rw [hr0] at O2 R
      clear q1 q2 r1 r2 hrw hq hb hb' ha hE hr hr0 hn hm
      generalize mkW 5 (n.tdiv (-1)) = wq at *
      generalize mkW 5 0 = wr at *
      go_enter Tryd.func28, Tryd.ntmps28
      go_wp2_with (first | (go_at_call 22; with_reducible refine Q.mono ?_; rintro e w' ⟨rfl, rfl⟩) | (go_at_call 23; with_reducible refine R.mono ?_; rintro e w' ⟨rfl, rfl⟩) | (go_at_call 13; with_reducible refine O1.mono ?_; rintro e w' ⟨rfl, rfl⟩) | (go_at_call 13; with_reducible refine O2.mono ?_; rintro e w' ⟨rfl, rfl⟩) | (go_at_call 13; with_reducible refine O3.mono ?_; rintro e w' ⟨rfl, rfl⟩))
      go_ret
      exact ⟨rfl, rfl⟩
def cutN (n : Int) : Int := wrap64 (n * 16) / 16
theorem cutN_inR (n : Int) : inR (cutN n) := by unfold cutN inR wrap64; omega
theorem cut_any (w : World) (n : Int) (h0 : -9223372036854775808 ≤ n) (h1 : n ≤ 9223372036854775807) :
    Calls Tryd.prog 26 #[.int .i64 n] w fun e w' => e = .returned (.int .i64 (cutN n)) ∧ w' = w := by
  unfold cutN
  go_enter Tryd.func26, Tryd.ntmps26
  go_wp2
  go_ret
  exact ⟨rfl, rfl⟩
theorem Int_iw (w : World) (n : Int) (h : inR n) (hb : Bnd w) :
    Calls Tryd.prog 11 #[.int .i64 n] w fun e w' => e = .returned (.tuple #[.int .u64 (mkW 5 n), .int .i64 0]) ∧ w' = w := by
  have := Int_any w n hb
  rw [mkE5 n h] at this
  exact this
theorem Less_iw (w : World) (x y n m : Int) (h : Iw x n) (k : Iw y m) (hb : Bnd w) :
    Calls Tryd.prog 25 #[.int .u64 x, .int .u64 y] w fun e w' => e = .returned (.tuple #[.bool (decide (n < m)), .int .i64 0]) ∧ w' = w := by
  have := Less_any w x y h.2.2.1 h.2.2.2.1 k.2.2.1 k.2.2.2.1 hb
  rw [h.ints k, Bool.true_and, if_pos rfl, h.2.1, k.2.1] at this
  exact this
set_option maxHeartbeats 1000000 in
theorem WordsAlgebra_any (w : World) (x1 x2 x3 : Int) (a0 : -9223372036854775808 ≤ x1) (a1 : x1 ≤ 9223372036854775807) (b0 : -9223372036854775808 ≤ x2) (b1 : x2 ≤ 9223372036854775807) (c0 : -9223372036854775808 ≤ x3) (c1 : x3 ≤ 9223372036854775807) (hb : Bnd w) :
    Calls Tryd.prog 7 #[.int .i64 x1, .int .i64 x2, .int .i64 x3] w fun e w' => e = .returned (.bool true) ∧ w' = w := by
  have K := known_any w hb
  have C1 := cut_any w x1 a0 a1
  have C2 := cut_any w x2 b0 b1
  have C3 := cut_any w x3 c0 c1
  have r1 := cutN_inR x1; have r2 := cutN_inR x2; have r3 := cutN_inR x3
  generalize cutN x1 = n at *; generalize cutN x2 = m at *; generalize cutN x3 = k at *
  have I1 := Int_iw w n r1 hb; have I2 := Int_iw w m r2 hb; have I3 := Int_iw w k r3 hb
  have I4 := Int_iw w 0 (by unfold inR; omega) hb
  have wa := iw_mk n r1; have wb := iw_mk m r2; have wc := iw_mk k r3
  have wz := iw_mk 0 (by unfold inR; omega)
  have SH := shares_any w _ _ _ n m k wa wb wc hb
  have DV := divides_any w _ _ n m wa wb hb
  have P1 := Add_any w _ _ wa.2.2.1 wa.2.2.2.1 wb.2.2.1 wb.2.2.2.1 hb
  have P2 := Add_any w _ _ wb.2.2.1 wb.2.2.2.1 wa.2.2.1 wa.2.2.2.1 hb
  have M1 := Mul_any w _ _ wa.2.2.1 wa.2.2.2.1 wb.2.2.1 wb.2.2.2.1 hb
  have M2 := Mul_any w _ _ wb.2.2.1 wb.2.2.2.1 wa.2.2.1 wa.2.2.2.1 hb
  rw [(rec0 wa wb).1, (rec0 wa wb).2] at P1
  rw [(rec0 wb wa).1, (rec0 wb wa).2, Int.add_comm m n] at P2
  rw [(rec2 wa wb).1, (rec2 wa wb).2] at M1
  rw [(rec2 wb wa).1, (rec2 wb wa).2, Int.mul_comm m n] at M2
  have L2 := Less_iw w _ _ 0 m wz wb hb
  by_cases hs : inR (n + m)
  · rw [mkE5 _ hs] at P1 P2
    have ws := iw_mk _ hs
    have S1 := Sub_any w _ _ ws.2.2.1 ws.2.2.2.1 wb.2.2.1 wb.2.2.2.1 hb
    have e : n + m - m = n := by omega
    rw [(rec1 ws wb).1, (rec1 ws wb).2, e, mkE5 _ r1] at S1
    have L1 := Less_iw w _ _ n (n + m) wa ws hb
    have e2 : decide (n < n + m) = decide (0 < m) := by rw [Bool.eq_iff_iff, decide_eq_true_iff, decide_eq_true_iff]; omega
    rw [e2] at L1
    clear wa wb wc wz ws e e2 hs hb r1 r2 r3
    generalize mkW 5 n = wn at *; generalize mkW 5 m = wm at *; generalize mkW 5 k = wk at *; generalize mkW 5 0 = w0 at *
    generalize mkW 5 (n + m) = u1 at *; generalize mkW 5 (n * m) = u2 at *; generalize mkE 5 (n * m) = u3 at *
    generalize decide (0 < m) = bb at *
    go_enter Tryd.func7, Tryd.ntmps7
    go_wp2_with (first | (go_at_call 8; refine K.mono ?_; rintro e w' ⟨rfl, rfl⟩) | (go_at_call 26; with_reducible refine C1.mono ?_; rintro e w' ⟨rfl, rfl⟩) | (go_at_call 26; with_reducible refine C2.mono ?_; rintro e w' ⟨rfl, rfl⟩) | (go_at_call 26; with_reducible refine C3.mono ?_; rintro e w' ⟨rfl, rfl⟩) | (go_at_call 11; with_reducible refine I1.mono ?_; rintro e w' ⟨rfl, rfl⟩) | (go_at_call 11; with_reducible refine I2.mono ?_; rintro e w' ⟨rfl, rfl⟩) | (go_at_call 11; with_reducible refine I3.mono ?_; rintro e w' ⟨rfl, rfl⟩) | (go_at_call 11; with_reducible refine I4.mono ?_; rintro e w' ⟨rfl, rfl⟩) | (go_at_call 19; with_reducible refine P1.mono ?_; rintro e w' ⟨rfl, rfl⟩) | (go_at_call 19; with_reducible refine P2.mono ?_; rintro e w' ⟨rfl, rfl⟩) | (go_at_call 21; with_reducible refine M1.mono ?_; rintro e w' ⟨rfl, rfl⟩) | (go_at_call 21; with_reducible refine M2.mono ?_; rintro e w' ⟨rfl, rfl⟩) | (go_at_call 20; with_reducible refine S1.mono ?_; rintro e w' ⟨rfl, rfl⟩) | (go_at_call 25; with_reducible refine L1.mono ?_; rintro e w' ⟨rfl, rfl⟩) | (go_at_call 25; with_reducible refine L2.mono ?_; rintro e w' ⟨rfl, rfl⟩) | (go_at_call 27; with_reducible refine SH.mono ?_; rintro e w' ⟨rfl, rfl⟩) | (go_at_call 28; with_reducible refine DV.mono ?_; rintro e w' ⟨rfl, rfl⟩))
    go_ret
    exact ⟨rfl, rfl⟩
  · have hE : mkE 5 (n + m) = 11 := by
      rcases mkE5_or (n + m) with h | h
      · exact absurd ((mkE5_iff _).1 h) hs
      · exact h
    rw [hE] at P1 P2
    clear wa wb wc wz hs hb hE r1 r2 r3 L2
    generalize mkW 5 n = wn at *; generalize mkW 5 m = wm at *; generalize mkW 5 k = wk at *; generalize mkW 5 0 = w0 at *
    generalize mkW 5 (n + m) = u1 at *; generalize mkW 5 (n * m) = u2 at *; generalize mkE 5 (n * m) = u3 at *
    have S1 := P1; have L1 := P1; have L2 := P1
    go_enter Tryd.func7, Tryd.ntmps7
    go_wp2_with (first | (go_at_call 8; refine K.mono ?_; rintro e w' ⟨rfl, rfl⟩) | (go_at_call 26; with_reducible refine C1.mono ?_; rintro e w' ⟨rfl, rfl⟩) | (go_at_call 26; with_reducible refine C2.mono ?_; rintro e w' ⟨rfl, rfl⟩) | (go_at_call 26; with_reducible refine C3.mono ?_; rintro e w' ⟨rfl, rfl⟩) | (go_at_call 11; with_reducible refine I1.mono ?_; rintro e w' ⟨rfl, rfl⟩) | (go_at_call 11; with_reducible refine I2.mono ?_; rintro e w' ⟨rfl, rfl⟩) | (go_at_call 11; with_reducible refine I3.mono ?_; rintro e w' ⟨rfl, rfl⟩) | (go_at_call 11; with_reducible refine I4.mono ?_; rintro e w' ⟨rfl, rfl⟩) | (go_at_call 19; with_reducible refine P1.mono ?_; rintro e w' ⟨rfl, rfl⟩) | (go_at_call 19; with_reducible refine P2.mono ?_; rintro e w' ⟨rfl, rfl⟩) | (go_at_call 21; with_reducible refine M1.mono ?_; rintro e w' ⟨rfl, rfl⟩) | (go_at_call 21; with_reducible refine M2.mono ?_; rintro e w' ⟨rfl, rfl⟩) | (go_at_call 20; with_reducible refine S1.mono ?_; rintro e w' ⟨rfl, rfl⟩) | (go_at_call 25; with_reducible refine L1.mono ?_; rintro e w' ⟨rfl, rfl⟩) | (go_at_call 25; with_reducible refine L2.mono ?_; rintro e w' ⟨rfl, rfl⟩) | (go_at_call 27; with_reducible refine SH.mono ?_; rintro e w' ⟨rfl, rfl⟩) | (go_at_call 28; with_reducible refine DV.mono ?_; rintro e w' ⟨rfl, rfl⟩))
    go_ret
    exact ⟨rfl, rfl⟩
end Go.Proofs.YticlgmlhkkimkaaDoor.L01
