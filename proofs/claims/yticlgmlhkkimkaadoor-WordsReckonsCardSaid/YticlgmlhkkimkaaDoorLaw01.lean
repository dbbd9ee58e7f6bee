/-
  THE WALKS of package dapplelaw01: known, WordsNumbers, WordsMakes, WordsBack come to true, whatever the input.
-/
import Derived.Test.YticlgmlhkkimkaaDoorWords2
import Derived.Test.YticlgmlhkkimkaaDoorRef01
import Derived.Carry
import Derived.Lib.Hide
set_option linter.unusedSimpArgs false
set_option linter.unusedVariables false
set_option maxRecDepth 100000
namespace Go.Proofs.YticlgmlhkkimkaaDoor.L01
open Go.RowKit Go.Proofs.YticlgmlhkkimkaaDoor.Wd

theorem known_any (w : World) (hb : Bnd w) :
    Calls Tryd.prog 8 #[] w fun e w' => e = .returned (.bool true) ∧ w' = w := by
  have m1 : Calls Tryd.prog 9 #[.int .u8 5, .int .i64 5] w fun e w' => e = .returned (.tuple #[.int .u64 85, .int .i64 0]) ∧ w' = w := Make_any w 5 5 hb
  have m2 : Calls Tryd.prog 9 #[.int .u8 5, .int .i64 (-1)] w fun e w' => e = .returned (.tuple #[.int .u64 18446744073709551605, .int .i64 0]) ∧ w' = w := Make_any w 5 (-1) hb
  have m3 : Calls Tryd.prog 9 #[.int .u8 1, .int .i64 1] w fun e w' => e = .returned (.tuple #[.int .u64 0, .int .i64 11]) ∧ w' = w := Make_any w 1 1 hb
  have m4 : Calls Tryd.prog 9 #[.int .u8 9, .int .i64 0] w fun e w' => e = .returned (.tuple #[.int .u64 0, .int .i64 10]) ∧ w' = w := Make_any w 9 0 hb
  have m5 : Calls Tryd.prog 13 #[.int .u64 102] w fun e w' => e = .returned (.tuple #[.int .u8 6, .int .i64 6, .bool true]) ∧ w' = w := Of_any w 102 (by omega) (by omega) hb
  have m6 : Calls Tryd.prog 12 #[.int .i64 3] w fun e w' => e = .returned (.int .u64 56) ∧ w' = w := Ref_any w 3 (by omega) (by omega) hb
  have m7 : Calls Tryd.prog 15 #[.int .u64 56] w fun e w' => e = .returned (.tuple #[.int .i64 3, .bool true]) ∧ w' = w := Cell_any w 56 (by omega) (by omega) hb
  have m8 : Calls Tryd.prog 22 #[.int .u64 18446744073709551605, .int .u64 85] w fun e w' => e = .returned (.tuple #[.int .u64 5, .int .i64 0]) ∧ w' = w := Quo_any w 18446744073709551605 85 (by omega) (by omega) (by omega) (by omega) hb
  have m9 : Calls Tryd.prog 19 #[.int .u64 85, .int .u64 18446744073709551605] w fun e w' => e = .returned (.tuple #[.int .u64 69, .int .i64 0]) ∧ w' = w := Add_any w 85 18446744073709551605 (by omega) (by omega) (by omega) (by omega) hb
  clear hb
  go_enter Tryd.func8, Tryd.ntmps8
  go_wp2_with (first
    | (go_at_call 9; with_reducible refine m1.mono ?_; rintro e w' ⟨rfl, rfl⟩)
    | (go_at_call 9; with_reducible refine m2.mono ?_; rintro e w' ⟨rfl, rfl⟩)
    | (go_at_call 9; with_reducible refine m3.mono ?_; rintro e w' ⟨rfl, rfl⟩)
    | (go_at_call 9; with_reducible refine m4.mono ?_; rintro e w' ⟨rfl, rfl⟩)
    | (go_at_call 13; with_reducible refine m5.mono ?_; rintro e w' ⟨rfl, rfl⟩)
    | (go_at_call 12; with_reducible refine m6.mono ?_; rintro e w' ⟨rfl, rfl⟩)
    | (go_at_call 15; with_reducible refine m7.mono ?_; rintro e w' ⟨rfl, rfl⟩)
    | (go_at_call 22; with_reducible refine m8.mono ?_; rintro e w' ⟨rfl, rfl⟩)
    | (go_at_call 19; with_reducible refine m9.mono ?_; rintro e w' ⟨rfl, rfl⟩))
  go_ret
  exact ⟨rfl, rfl⟩

theorem WordsNumbers_any (w : World) (hb : Bnd w) :
    Calls Tryd.prog 3 #[] w fun e w' => e = .returned (.bool true) ∧ Below w.heap.size w w' := by
  have hc : ∀ k : Nat, k < 8 → (w.alloc (.cells #[.int .u8 1, .int .u8 2, .int .u8 3, .int .u8 4, .int .u8 5, .int .u8 6, .int .u8 7, .int .u8 8] 22)).cell? ⟨w.heap.size, k, none⟩ = some (.int .u8 (k + 1)) := by
    intro k hk
    rw [World.cell?_alloc_at (hn := rfl)]
    match k, hk with
    | 0, _ | 1, _ | 2, _ | 3, _ | 4, _ | 5, _ | 6, _ | 7, _ => rfl
  have K := known_any _ (hb.alloc (.cells #[.int .u8 1, .int .u8 2, .int .u8 3, .int .u8 4, .int .u8 5, .int .u8 6, .int .u8 7, .int .u8 8] 22))
  have HB : Below w.heap.size w (w.alloc (.cells #[.int .u8 1, .int .u8 2, .int .u8 3, .int .u8 4, .int .u8 5, .int .u8 6, .int .u8 7, .int .u8 8] 22)) := (Below.refl _ _).alloc (Nat.le_refl _) _
  clear hb
  go_enter Tryd.func3, Tryd.ntmps3
  go_wp2_with fail
  go_loop [2] (fun i => ∃ k : Nat, k ≤ 8 ∧ i = .int .i64 k) (fun i => 8 - (intOf i).toNat)
  case atStart => exact ⟨0, by omega, rfl⟩
  case round =>
    obtain ⟨k, hk, rfl⟩ := hrel
    by_cases hlt : k < 8
    · have c := hc k hlt
      clear hc HB K
      go_wp2
      go_round
      case rel => exact ⟨k + 1, by omega, by go_num⟩
      case measure => simp [intOf]; omega
    · clear hc
      obtain rfl : k = 8 := by omega
      have hB := Lib.hid HB
      clear HB
      go_wp2_with (go_at_call 8; refine K.mono ?_; rintro e w' ⟨rfl, rfl⟩)
      go_ret
      exact ⟨rfl, hB.out⟩
theorem WordsMakes_any (w : World) (t n c x : Int) (ht0 : 0 ≤ t) (ht : t ≤ 255) (hn0 : -9223372036854775808 ≤ n) (hn1 : n ≤ 9223372036854775807) (hc0 : -9223372036854775808 ≤ c) (hc1 : c ≤ 9223372036854775807) (hx0 : 0 ≤ x) (hx : x < 18446744073709551616) (hb : Bnd w) :
    Calls Tryd.prog 4 #[.agg #[.int .u8 t, .int .i64 n, .int .i64 c, .int .u64 x]] w fun e w' => e = .returned (.bool true) ∧ Below w.heap.size w w' := by
  obtain ⟨o1, ho1⟩ : ∃ o, o = Obj.cells #[.int .u8 t, .int .i64 n, .int .i64 c, .int .u64 x] 28 := ⟨_, rfl⟩
  obtain ⟨o2, ho2⟩ : ∃ o, o = Obj.cells #[.int .u64 x, .int .u64 (mkW t n), .int .u64 (mkW 5 n), .int .u64 (refW c), .int .u64 0] 26 := ⟨_, rfl⟩
  have B1 := hb.alloc o1
  have B2 := B1.alloc o2
  have HB : Below w.heap.size w ((w.alloc o1).alloc o2) := ((Below.refl _ _).alloc (Nat.le_refl _) _).alloc (by simp) _
  have hel : ∀ k : Nat, k < 5 → ∃ y : Int, 0 ≤ y ∧ y < 18446744073709551616 ∧ ((w.alloc o1).alloc o2).cell? ⟨(w.alloc o1).heap.size, k, none⟩ = some (.int .u64 y) := by
    intro k hk
    have e : ∀ i : Nat, ((w.alloc o1).alloc o2).cell? ⟨(w.alloc o1).heap.size, i, none⟩ = (#[.int .u64 x, .int .u64 (mkW t n), .int .u64 (mkW 5 n), .int .u64 (refW c), .int .u64 0] : Array Value)[i]? := fun i => by rw [ho2]; exact World.cell?_alloc_at _ _ _ _ rfl
    have r1 := mkW_range t n; have r2 := mkW_range 5 n; have r3 := mkW_range 8 c
    match k, hk with
    | 0, _ => exact ⟨x, hx0, hx, (e 0).trans rfl⟩
    | 1, _ => exact ⟨_, r1.1, r1.2, (e 1).trans rfl⟩
    | 2, _ => exact ⟨_, r2.1, r2.2, (e 2).trans rfl⟩
    | 3, _ => exact ⟨_, r3.1, r3.2, (e 3).trans rfl⟩
    | 4, _ => exact ⟨0, by omega, by omega, (e 4).trans rfl⟩
  have hs : (w.alloc o1).heap.size = w.heap.size + 1 := by simp
  rw [hs] at hel
  have hHB := Lib.hid HB
  have hHE := Lib.hid hel
  clear HB hel hs
  subst ho1 ho2
  have K := known_any _ B1
  go_enter Tryd.func4, Tryd.ntmps4
  go_wp2_with (first
    | (go_at_call 8; refine K.mono ?_; rintro e w' ⟨rfl, rfl⟩)
    | (go_at_call 9; refine (Make_any _ _ _ B1).mono ?_; rintro e w' ⟨rfl, rfl⟩)
    | (go_at_call 10; refine (Rd.Make_any _ _ _ (by omega) (by omega)).mono ?_; rintro e w' ⟨rfl, rfl⟩)
    | (go_at_call 11; refine (Int_any _ _ B1).mono ?_; rintro e w' ⟨rfl, rfl⟩)
    | (go_at_call 12; refine (Ref_any _ _ (by omega) (by omega) B1).mono ?_; rintro e w' ⟨rfl, rfl⟩))
  generalize ((w.alloc (Obj.cells #[.int .u8 t, .int .i64 n, .int .i64 c, .int .u64 x] 28)).alloc (Obj.cells #[.int .u64 x, .int .u64 (mkW t n), .int .u64 (mkW 5 n), .int .u64 (refW c), .int .u64 0] 26)) = W at *
  clear K B1 hb
  go_loop [16] (fun i => ∃ k : Nat, k ≤ 5 ∧ i = .int .i64 k) (fun i => 5 - (intOf i).toNat)
  case atStart => exact ⟨0, by omega, rfl⟩
  case round =>
    obtain ⟨k, hk, rfl⟩ := hrel
    by_cases hlt : k < 5
    · obtain ⟨y, hy0, hy1, hy⟩ := hHE.out k hlt
      have ht := true_tag y hy0 hy1
      have O1 := Of_any _ y hy0 hy1 B2
      have O2 := Rd.Of_any W y hy0 hy1
      have O3 := Cell_any _ y hy0 hy1 B2
      have O4 := Rd.Cell_any W y hy0 hy1
      have O5 := True_any W y
      rw [ht] at O5
      clear ht B2
      generalize ofT y = a1 at *; generalize ofN y = a2 at *; generalize ofOk y = a3 at *; generalize cellN y = a4 at *; generalize isRef y = a5 at *
      go_wp2_with (first
        | (go_at_call 13; refine O1.mono ?_; rintro e w' ⟨rfl, rfl⟩)
        | (go_at_call 14; refine O2.mono ?_; rintro e w' ⟨rfl, rfl⟩)
        | (go_at_call 15; refine O3.mono ?_; rintro e w' ⟨rfl, rfl⟩)
        | (go_at_call 16; refine O4.mono ?_; rintro e w' ⟨rfl, rfl⟩)
        | (go_at_call 17; refine O5.mono ?_; rintro e w' ⟨rfl, rfl⟩))
      go_round
      case rel => exact ⟨k + 1, by omega, by go_num⟩
      case measure => simp [intOf]; omega
    · obtain rfl : k = 5 := by omega
      go_wp2_with (first
        | (go_at_call 12; refine (Ref_any _ _ (by omega) (by omega) B2).mono ?_; rintro e w' ⟨rfl, rfl⟩)
        | (go_at_call 18; refine (Rd.Ref_any _ _ (by omega) (by omega)).mono ?_; rintro e w' ⟨rfl, rfl⟩))
      go_ret
      exact ⟨rfl, hHB.out⟩
set_option maxHeartbeats 1000000 in
theorem WordsBack_any (w : World) (x y : Int) (hx0 : 0 ≤ x) (hx : x < 18446744073709551616) (hy0 : 0 ≤ y) (hy : y < 18446744073709551616) (hb : Bnd w) :
    Calls Tryd.prog 5 #[.int .u64 x, .int .u64 y] w fun e w' => e = .returned (.bool true) ∧ w' = w := by
  have K := known_any w hb
  have O1 := Of_any w x hx0 hx hb
  have O2 := Of_any w y hy0 hy hb
  have T := True_any w x
  rw [true_tag x hx0 hx] at T
  cases ho : ofOk x
  · have eT : ofT x = 0 := by simp [ofT, ho]
    have eN : ofN x = 0 := by simp [ofN, ho]
    rw [ho, eT, eN] at O1
    clear T ho eT eN hb
    generalize ofT y = b1 at *; generalize ofN y = b2 at *; generalize ofOk y = b3 at *
    go_enter Tryd.func5, Tryd.ntmps5
    go_wp2_with (first
      | (go_at_call 8; refine K.mono ?_; rintro e w' ⟨rfl, rfl⟩)
      | (go_at_call 13; with_reducible refine O1.mono ?_; rintro e w' ⟨rfl, rfl⟩)
      | (go_at_call 13; with_reducible refine O2.mono ?_; rintro e w' ⟨rfl, rfl⟩))
    go_ret
    exact ⟨rfl, rfl⟩
  · obtain ⟨m1, m2⟩ := mk_of x hx0 hx ho
    have M := Make_any w (ofT x) (ofN x) hb
    rw [m1, m2] at M
    have C := Cell_any w x hx0 hx hb
    have hcr := cellN_range x
    have R := Ref_any w (cellN x) (by omega) (by omega) hb
    have hr := ref_cell x hx0 hx
    rw [ho] at O1
    have hrt : isRef x = (ofT x == 8) := by rw [Bool.eq_iff_iff]; simp [isRef]
    have b1r := ofT_range y
    by_cases hxy : x = y
    · subst hxy
      rw [ho] at O2
      cases hi : isRef x
      · rw [hi] at C hrt
        clear hr R ho m1 m2 O2
        generalize ofT x = a1 at *; generalize ofN x = a2 at *; generalize cellN x = a4 at *
        have hrt' : (a1 == 8) = false := hrt.symm
        clear hrt hb hi
        go_enter Tryd.func5, Tryd.ntmps5
        go_wp2_with (first | (go_at_call 8; refine K.mono ?_; rintro e w' ⟨rfl, rfl⟩) | (go_at_call 13; with_reducible refine O1.mono ?_; rintro e w' ⟨rfl, rfl⟩) | (go_at_call 13; with_reducible refine O2.mono ?_; rintro e w' ⟨rfl, rfl⟩) | (go_at_call 9; with_reducible refine M.mono ?_; rintro e w' ⟨rfl, rfl⟩) | (go_at_call 15; with_reducible refine C.mono ?_; rintro e w' ⟨rfl, rfl⟩) | (go_at_call 12; with_reducible refine R.mono ?_; rintro e w' ⟨rfl, rfl⟩) | (go_at_call 17; with_reducible refine T.mono ?_; rintro e w' ⟨rfl, rfl⟩))
        go_ret
        exact ⟨by simp, rfl⟩
      · obtain ⟨r1, r2, r3, r4⟩ := hr hi
        rw [r1] at R
        rw [hi, r2] at C
        rw [r3] at T O1 M
        rw [r2] at R
        clear hr ho m1 m2 O2 hrt hb hi r1 r2 r3 r4
        generalize ofN x = a2 at *
        go_enter Tryd.func5, Tryd.ntmps5
        go_wp2_with (first | (go_at_call 8; refine K.mono ?_; rintro e w' ⟨rfl, rfl⟩) | (go_at_call 13; with_reducible refine O1.mono ?_; rintro e w' ⟨rfl, rfl⟩) | (go_at_call 13; with_reducible refine O2.mono ?_; rintro e w' ⟨rfl, rfl⟩) | (go_at_call 9; with_reducible refine M.mono ?_; rintro e w' ⟨rfl, rfl⟩) | (go_at_call 15; with_reducible refine C.mono ?_; rintro e w' ⟨rfl, rfl⟩) | (go_at_call 12; with_reducible refine R.mono ?_; rintro e w' ⟨rfl, rfl⟩) | (go_at_call 17; with_reducible refine T.mono ?_; rintro e w' ⟨rfl, rfl⟩))
        go_ret
        exact ⟨by simp, rfl⟩
    · have hxy' : (x == y) = false := by simpa using hxy
      cases hoy : ofOk y
      · rw [hoy] at O2
        cases hi : isRef x
        · rw [hi] at C hrt
          clear hr R ho m1 m2 hoy
          generalize ofT x = a1 at *; generalize ofN x = a2 at *; generalize cellN x = a4 at *
          generalize ofT y = b1 at *; generalize ofN y = b2 at *
          have hrt' : (a1 == 8) = false := hrt.symm
          clear hrt hb hi
          go_enter Tryd.func5, Tryd.ntmps5
          go_wp2_with (first | (go_at_call 8; refine K.mono ?_; rintro e w' ⟨rfl, rfl⟩) | (go_at_call 13; with_reducible refine O1.mono ?_; rintro e w' ⟨rfl, rfl⟩) | (go_at_call 13; with_reducible refine O2.mono ?_; rintro e w' ⟨rfl, rfl⟩) | (go_at_call 9; with_reducible refine M.mono ?_; rintro e w' ⟨rfl, rfl⟩) | (go_at_call 15; with_reducible refine C.mono ?_; rintro e w' ⟨rfl, rfl⟩) | (go_at_call 12; with_reducible refine R.mono ?_; rintro e w' ⟨rfl, rfl⟩) | (go_at_call 17; with_reducible refine T.mono ?_; rintro e w' ⟨rfl, rfl⟩))
          go_ret
          exact ⟨by simp, rfl⟩
        · obtain ⟨r1, r2, r3, r4⟩ := hr hi
          rw [r1] at R
          rw [hi, r2] at C
          rw [r3] at T O1 M
          rw [r2] at R
          clear hr ho m1 m2 hrt hb hi r1 r2 r3 r4 hoy
          generalize ofN x = a2 at *
          generalize ofT y = b1 at *; generalize ofN y = b2 at *
          go_enter Tryd.func5, Tryd.ntmps5
          go_wp2_with (first | (go_at_call 8; refine K.mono ?_; rintro e w' ⟨rfl, rfl⟩) | (go_at_call 13; with_reducible refine O1.mono ?_; rintro e w' ⟨rfl, rfl⟩) | (go_at_call 13; with_reducible refine O2.mono ?_; rintro e w' ⟨rfl, rfl⟩) | (go_at_call 9; with_reducible refine M.mono ?_; rintro e w' ⟨rfl, rfl⟩) | (go_at_call 15; with_reducible refine C.mono ?_; rintro e w' ⟨rfl, rfl⟩) | (go_at_call 12; with_reducible refine R.mono ?_; rintro e w' ⟨rfl, rfl⟩) | (go_at_call 17; with_reducible refine T.mono ?_; rintro e w' ⟨rfl, rfl⟩))
          go_ret
          exact ⟨by simp, rfl⟩
      · rw [hoy] at O2
        by_cases hTT : ofT x = ofT y
        · have hNN : (ofN x == ofN y) = false := by
            rw [beq_eq_false_iff_ne]
            intro hN
            exact hxy (of_inj x y hx0 hx hy0 hy ho hoy hTT hN)
          rw [← hTT] at O2 b1r
          cases hi : isRef x
          · rw [hi] at C hrt
            clear hr R ho m1 m2 hoy hTT hxy
            generalize ofT x = a1 at *; generalize ofN x = a2 at *; generalize cellN x = a4 at *
            generalize ofN y = b2 at *
            have hrt' : (a1 == 8) = false := hrt.symm
            clear hrt hb hi
            go_enter Tryd.func5, Tryd.ntmps5
            go_wp2_with (first | (go_at_call 8; refine K.mono ?_; rintro e w' ⟨rfl, rfl⟩) | (go_at_call 13; with_reducible refine O1.mono ?_; rintro e w' ⟨rfl, rfl⟩) | (go_at_call 13; with_reducible refine O2.mono ?_; rintro e w' ⟨rfl, rfl⟩) | (go_at_call 9; with_reducible refine M.mono ?_; rintro e w' ⟨rfl, rfl⟩) | (go_at_call 15; with_reducible refine C.mono ?_; rintro e w' ⟨rfl, rfl⟩) | (go_at_call 12; with_reducible refine R.mono ?_; rintro e w' ⟨rfl, rfl⟩) | (go_at_call 17; with_reducible refine T.mono ?_; rintro e w' ⟨rfl, rfl⟩))
            go_ret
            exact ⟨by simp, rfl⟩
          · obtain ⟨r1, r2, r3, r4⟩ := hr hi
            rw [r1] at R
            rw [hi, r2] at C
            rw [r3] at T O1 M O2
            rw [r2] at R
            clear hr ho m1 m2 hrt hb hi r1 r2 r3 r4 hoy hTT hxy
            generalize ofN x = a2 at *
            generalize ofN y = b2 at *
            go_enter Tryd.func5, Tryd.ntmps5
            go_wp2_with (first | (go_at_call 8; refine K.mono ?_; rintro e w' ⟨rfl, rfl⟩) | (go_at_call 13; with_reducible refine O1.mono ?_; rintro e w' ⟨rfl, rfl⟩) | (go_at_call 13; with_reducible refine O2.mono ?_; rintro e w' ⟨rfl, rfl⟩) | (go_at_call 9; with_reducible refine M.mono ?_; rintro e w' ⟨rfl, rfl⟩) | (go_at_call 15; with_reducible refine C.mono ?_; rintro e w' ⟨rfl, rfl⟩) | (go_at_call 12; with_reducible refine R.mono ?_; rintro e w' ⟨rfl, rfl⟩) | (go_at_call 17; with_reducible refine T.mono ?_; rintro e w' ⟨rfl, rfl⟩))
            go_ret
            exact ⟨by simp, rfl⟩
        · have hTT' : (ofT x == ofT y) = false := by simpa using hTT
          cases hi : isRef x
          · rw [hi] at C hrt
            clear hr R ho m1 m2 hoy hxy
            generalize ofT x = a1 at *; generalize ofN x = a2 at *; generalize cellN x = a4 at *
            generalize ofT y = b1 at *; generalize ofN y = b2 at *
            have hrt' : (a1 == 8) = false := hrt.symm
            clear hrt hb hi
            go_enter Tryd.func5, Tryd.ntmps5
            go_wp2_with (first | (go_at_call 8; refine K.mono ?_; rintro e w' ⟨rfl, rfl⟩) | (go_at_call 13; with_reducible refine O1.mono ?_; rintro e w' ⟨rfl, rfl⟩) | (go_at_call 13; with_reducible refine O2.mono ?_; rintro e w' ⟨rfl, rfl⟩) | (go_at_call 9; with_reducible refine M.mono ?_; rintro e w' ⟨rfl, rfl⟩) | (go_at_call 15; with_reducible refine C.mono ?_; rintro e w' ⟨rfl, rfl⟩) | (go_at_call 12; with_reducible refine R.mono ?_; rintro e w' ⟨rfl, rfl⟩) | (go_at_call 17; with_reducible refine T.mono ?_; rintro e w' ⟨rfl, rfl⟩))
            go_ret
            exact ⟨by simp, rfl⟩
          · obtain ⟨r1, r2, r3, r4⟩ := hr hi
            rw [r1] at R
            rw [hi, r2] at C
            rw [r3] at T O1 M hTT' hTT
            rw [r2] at R
            clear hr ho m1 m2 hrt hb hi r1 r2 r3 r4 hoy hxy
            generalize ofN x = a2 at *
            generalize ofT y = b1 at *; generalize ofN y = b2 at *
            go_enter Tryd.func5, Tryd.ntmps5
            go_wp2_with (first | (go_at_call 8; refine K.mono ?_; rintro e w' ⟨rfl, rfl⟩) | (go_at_call 13; with_reducible refine O1.mono ?_; rintro e w' ⟨rfl, rfl⟩) | (go_at_call 13; with_reducible refine O2.mono ?_; rintro e w' ⟨rfl, rfl⟩) | (go_at_call 9; with_reducible refine M.mono ?_; rintro e w' ⟨rfl, rfl⟩) | (go_at_call 15; with_reducible refine C.mono ?_; rintro e w' ⟨rfl, rfl⟩) | (go_at_call 12; with_reducible refine R.mono ?_; rintro e w' ⟨rfl, rfl⟩) | (go_at_call 17; with_reducible refine T.mono ?_; rintro e w' ⟨rfl, rfl⟩))
            go_ret
            exact ⟨by simp, rfl⟩
end Go.Proofs.YticlgmlhkkimkaaDoor.L01
