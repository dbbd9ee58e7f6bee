/-
  THE WALKS of package dappleref01: each function comes to WordsPure's number, and leaves the world as it is.
  THE WALKS of dappleref10: word, Check, Right, renamed.
  THE WALKS of dappleref10: Order, Reach.
-/
import Derived.Test.YtlhhcocdhkbdnaaDoorProg
import Derived.Test.YtlhhcocdhkbdnaaDoorQJWords
import Derived.WalkKit
import Derived.KernelRfl
import Derived.Test.YtlhhcocdhkbdnaaDoorQJReachP
import Derived.Test.YtlhhcocdhkbdnaaDoorQJApp
import Derived.StillTail
import Derived.StillTactics
import Derived.StillTailTactics
import Derived.Deep.RegionHeld3
set_option linter.unusedSimpArgs false
set_option linter.unusedVariables false
namespace Go.Proofs.YtlhhcocdhkbdnaaDoor.Rd
open Go.RowKit Go.Proofs.YtlhhcocdhkbdnaaDoor.Wd

set_option maxHeartbeats 1000000 in
theorem May_any (w : World) (t n : Int) (h0 : 0 ≤ t) (h1 : t ≤ 255) :
    Calls Tryd.prog 101 #[.int .u8 t, .int .i64 n] w fun e w' => e = .returned (.bool (mkOk t n)) ∧ w' = w := by
  by_cases ht : 1 ≤ t ∧ t ≤ 8
  · obtain ⟨ha, hb⟩ := ht
    obtain rfl | rfl | rfl | rfl | rfl | rfl | rfl | rfl : t = 1 ∨ t = 2 ∨ t = 3 ∨ t = 4 ∨ t = 5 ∨ t = 6 ∨ t = 7 ∨ t = 8 := by omega
    · have e : mkOk 1 n = (n == 0) := by rw [Bool.eq_iff_iff]; simp [mkOk, okT, okN, lo, hi]; omega
      rw [e]; clear e
      go_enter Tryd.func101, Tryd.ntmps101
      go_wp2
      go_ret
      exact ⟨rfl, rfl⟩
    · have e : mkOk 2 n = (n == 0) := by rw [Bool.eq_iff_iff]; simp [mkOk, okT, okN, lo, hi]; omega
      rw [e]; clear e
      go_enter Tryd.func101, Tryd.ntmps101
      go_wp2
      go_ret
      exact ⟨rfl, rfl⟩
    · have e : mkOk 3 n = (n == 0) := by rw [Bool.eq_iff_iff]; simp [mkOk, okT, okN, lo, hi]; omega
      rw [e]; clear e
      go_enter Tryd.func101, Tryd.ntmps101
      go_wp2
      go_ret
      exact ⟨rfl, rfl⟩
    · have e : mkOk 4 n = (n == 0) := by rw [Bool.eq_iff_iff]; simp [mkOk, okT, okN, lo, hi]; omega
      rw [e]; clear e
      go_enter Tryd.func101, Tryd.ntmps101
      go_wp2
      go_ret
      exact ⟨rfl, rfl⟩
    · have e : mkOk 5 n = (decide (-576460752303423488 ≤ n) && decide (n ≤ 576460752303423487)) := by simp [mkOk, okT, okN, lo, hi]
      rw [e]; clear e
      go_enter Tryd.func101, Tryd.ntmps101
      go_wp2
      all_goals go_ret
      · have : -576460752303423488 ≤ n := by assumption
        exact ⟨by simp [this], rfl⟩
      · have : ¬ -576460752303423488 ≤ n := by omega
        exact ⟨by simp [this], rfl⟩
    · have e : mkOk 6 n = (decide (0 ≤ n) && decide (n ≤ 2147483647)) := by simp [mkOk, okT, okN, lo, hi]
      rw [e]; clear e
      go_enter Tryd.func101, Tryd.ntmps101
      go_wp2
      all_goals go_ret
      · have : 0 ≤ n := by assumption
        exact ⟨by simp [this], rfl⟩
      · have : ¬ 0 ≤ n := by omega
        exact ⟨by simp [this], rfl⟩
    · have e : mkOk 7 n = (decide (1 ≤ n) && decide (n ≤ 22)) := by simp [mkOk, okT, okN, lo, hi]
      rw [e]; clear e
      go_enter Tryd.func101, Tryd.ntmps101
      go_wp2
      all_goals go_ret
      · have : 1 ≤ n := by assumption
        exact ⟨by simp [this], rfl⟩
      · have : ¬ 1 ≤ n := by omega
        exact ⟨by simp [this], rfl⟩
    · have e : mkOk 8 n = (decide (0 ≤ n) && decide (n ≤ 2147483647)) := by simp [mkOk, okT, okN, lo, hi]
      rw [e]; clear e
      go_enter Tryd.func101, Tryd.ntmps101
      go_wp2
      all_goals go_ret
      · have : 0 ≤ n := by assumption
        exact ⟨by simp [this], rfl⟩
      · have : ¬ 0 ≤ n := by omega
        exact ⟨by simp [this], rfl⟩
  · have e : mkOk t n = false := by simp [mkOk, okT]; omega
    rw [e]
    have c1 : (t == 1) = false := by rw [beq_eq_false_iff_ne]; omega
    have c2 : (t == 2) = false := by rw [beq_eq_false_iff_ne]; omega
    have c3 : (t == 3) = false := by rw [beq_eq_false_iff_ne]; omega
    have c4 : (t == 4) = false := by rw [beq_eq_false_iff_ne]; omega
    have c5 : (t == 5) = false := by rw [beq_eq_false_iff_ne]; omega
    have c6 : (t == 6) = false := by rw [beq_eq_false_iff_ne]; omega
    have c7 : (t == 7) = false := by rw [beq_eq_false_iff_ne]; omega
    have c8 : (t == 8) = false := by rw [beq_eq_false_iff_ne]; omega
    clear e ht
    go_enter Tryd.func101, Tryd.ntmps101
    go_wp2
    go_ret
    exact ⟨rfl, rfl⟩

theorem Make_any (w : World) (t n : Int) (h0 : 0 ≤ t) (h255 : t ≤ 255) :
    Calls Tryd.prog 81 #[.int .u8 t, .int .i64 n] w fun e w' => e = .returned (.tuple #[.int .u64 (mkW t n), .int .i64 (mkE t n)]) ∧ w' = w := by
  have H := May_any w t n h0 h255
  by_cases h1 : 1 ≤ t
  · by_cases h8 : t ≤ 8
    · have ht : okT t = true := by simp [okT, h1, h8]
      cases hn : okN t n
      · have hW : mkW t n = 0 := by simp [mkW, mkOk, ht, hn]
        have hE : mkE t n = 11 := by simp [mkE, ht, hn]
        have ho : mkOk t n = false := by simp [mkOk, hn]
        rw [hW, hE]
        rw [ho] at H
        clear hW hE hn ht ho
        go_enter Tryd.func81, Tryd.ntmps81
        go_wp2_with (go_at_call 101; refine H.mono ?_; rintro e w' ⟨rfl, rfl⟩)
        go_ret2
        exact ⟨rfl, rfl⟩
      · have ho : mkOk t n = true := by simp [mkOk, hn, ht]
        have hW : IntKind.u64.wrap (IntKind.u64.wrap (IntKind.u64.wrap n * 16) + t) = mkW t n := by
          have e : ∀ m, IntKind.u64.wrap m = m % 18446744073709551616 := fun m => by simp [IntKind.wrap, IntKind.bits, IntKind.signed]
          rw [e, e, e]; unfold mkW; rw [if_pos ho]; omega
        have hE : mkE t n = 0 := by simp [mkE, ht, hn]
        rw [← hW, hE]
        rw [ho] at H
        clear hW hE hn ht ho
        go_enter Tryd.func81, Tryd.ntmps81
        go_wp2_with (go_at_call 101; refine H.mono ?_; rintro e w' ⟨rfl, rfl⟩)
        go_ret2
        exact ⟨rfl, rfl⟩
    · have ht : okT t = false := by simp [okT]; omega
      have hW : mkW t n = 0 := by simp [mkW, mkOk, ht]
      have hE : mkE t n = 10 := by simp [mkE, ht]
      rw [hW, hE]
      clear hW hE ht H
      go_enter Tryd.func81, Tryd.ntmps81
      go_wp2_with fail
      go_ret2
      exact ⟨rfl, rfl⟩
  · have ht : okT t = false := by simp [okT]; omega
    have hW : mkW t n = 0 := by simp [mkW, mkOk, ht]
    have hE : mkE t n = 10 := by simp [mkE, ht]
    rw [hW, hE]
    clear hW hE ht H
    go_enter Tryd.func81, Tryd.ntmps81
    go_wp2_with fail
    go_ret2
    exact ⟨rfl, rfl⟩

theorem Of_any (w : World) (x : Int) (h0 : 0 ≤ x) (hx : x < 18446744073709551616) :
    Calls Tryd.prog 80 #[.int .u64 x] w fun e w' => e = .returned (.tuple #[.int .u8 (ofT x), .int .i64 (ofN x), .bool (ofOk x)]) ∧ w' = w := by
  by_cases hg : 576460752303423487 < x / 16
  · have hs : sN x = x / 16 - 1152921504606846976 := by unfold sN; rw [if_pos hg]
    have H := May_any w (x % 16) (x / 16 - 1152921504606846976) (by omega) (by omega)
    rw [← hs] at H
    cases ho : ofOk x
    · have hT : ofT x = 0 := by simp [ofT, ho]
      have hN : ofN x = 0 := by simp [ofN, ho]
      have hm : mkOk (x % 16) (sN x) = false := ho
      rw [hT, hN]; rw [hm] at H
      rw [hs] at H
      clear ho hT hN hm hs
      have m1 : 0 ≤ x % 16 := by omega
      have m2 : x % 16 ≤ 15 := by omega
      have d1 : x / 16 ≤ 1152921504606846975 := by omega
      go_enter Tryd.func80, Tryd.ntmps80
      go_wp2_with (go_at_call 101; refine H.mono ?_; rintro e w' ⟨rfl, rfl⟩)
      go_ret3
      exact ⟨rfl, rfl⟩
    · have hT : ofT x = x % 16 := by simp [ofT, ho]
      have hN : ofN x = sN x := by simp [ofN, ho]
      have hm : mkOk (x % 16) (sN x) = true := ho
      rw [hT, hN]; rw [hm] at H
      rw [hs] at H ⊢
      clear ho hT hN hm hs
      have m1 : 0 ≤ x % 16 := by omega
      have m2 : x % 16 ≤ 15 := by omega
      have d1 : x / 16 ≤ 1152921504606846975 := by omega
      go_enter Tryd.func80, Tryd.ntmps80
      go_wp2_with (go_at_call 101; refine H.mono ?_; rintro e w' ⟨rfl, rfl⟩)
      go_ret3
      exact ⟨rfl, rfl⟩
  · have hs : sN x = x / 16 := by unfold sN; rw [if_neg hg]
    have H := May_any w (x % 16) (x / 16) (by omega) (by omega)
    rw [← hs] at H
    cases ho : ofOk x
    · have hT : ofT x = 0 := by simp [ofT, ho]
      have hN : ofN x = 0 := by simp [ofN, ho]
      have hm : mkOk (x % 16) (sN x) = false := ho
      rw [hT, hN]; rw [hm] at H
      rw [hs] at H
      clear ho hT hN hm hs
      have m1 : 0 ≤ x % 16 := by omega
      have m2 : x % 16 ≤ 15 := by omega
      have d1 : x / 16 ≤ 1152921504606846975 := by omega
      go_enter Tryd.func80, Tryd.ntmps80
      go_wp2_with (go_at_call 101; refine H.mono ?_; rintro e w' ⟨rfl, rfl⟩)
      go_ret3
      exact ⟨rfl, rfl⟩
    · have hT : ofT x = x % 16 := by simp [ofT, ho]
      have hN : ofN x = sN x := by simp [ofN, ho]
      have hm : mkOk (x % 16) (sN x) = true := ho
      rw [hT, hN]; rw [hm] at H
      rw [hs] at H ⊢
      clear ho hT hN hm hs
      have m1 : 0 ≤ x % 16 := by omega
      have m2 : x % 16 ≤ 15 := by omega
      have d1 : x / 16 ≤ 1152921504606846975 := by omega
      go_enter Tryd.func80, Tryd.ntmps80
      go_wp2_with (go_at_call 101; refine H.mono ?_; rintro e w' ⟨rfl, rfl⟩)
      go_ret3
      exact ⟨rfl, rfl⟩
theorem Cell_any (w : World) (x : Int) (h0 : 0 ≤ x) (hx : x < 18446744073709551616) :
    Calls Tryd.prog 33 #[.int .u64 x] w fun e w' => e = .returned (.tuple #[.int .i64 (cellN x), .bool (isRef x)]) ∧ w' = w := by
  have H := Of_any w x h0 hx
  have hr := ofN_range x
  cases ho : ofOk x
  · have hT : ofT x = 0 := by simp [ofT, ho]
    have hi : isRef x = false := by simp [isRef, hT]
    have hc : cellN x = 0 := by simp [cellN, hi]
    rw [hc, hi]; rw [ho] at H
    clear hi hc hT ho
    generalize ofT x = a at *; generalize ofN x = b at *
    go_enter Tryd.func33, Tryd.ntmps33
    go_wp2_with (go_at_call 80; refine H.mono ?_; rintro e w' ⟨rfl, rfl⟩)
    go_ret2
    exact ⟨rfl, rfl⟩
  · rw [ho] at H
    cases hi : isRef x
    · have hc : cellN x = 0 := by simp [cellN, hi]
      have hi' : (ofT x != 8) = true := by simpa [isRef] using hi
      rw [hc]
      generalize ofT x = a at *; generalize ofN x = b at *
      clear hi hc
      go_enter Tryd.func33, Tryd.ntmps33
      go_wp2_with (go_at_call 80; refine H.mono ?_; rintro e w' ⟨rfl, rfl⟩)
      go_ret2
      exact ⟨rfl, rfl⟩
    · have hc : cellN x = ofN x := by simp [cellN, hi]
      have hi' : (ofT x != 8) = false := by simpa [isRef] using hi
      rw [hc]
      generalize ofT x = a at *; generalize ofN x = b at *
      clear hi hc
      go_enter Tryd.func33, Tryd.ntmps33
      go_wp2_with (go_at_call 80; refine H.mono ?_; rintro e w' ⟨rfl, rfl⟩)
      go_ret2
      exact ⟨rfl, rfl⟩
theorem Ref_any (w : World) (n : Int) (h0 : -9223372036854775808 ≤ n) (h1 : n ≤ 9223372036854775807) :
    Calls Tryd.prog 34 #[.int .i64 n] w fun e w' => e = .returned (.int .u64 (refW n)) ∧ w' = w := by
  have H := Make_any w 8 n (by omega) (by omega)
  unfold refW
  go_enter Tryd.func34, Tryd.ntmps34
  go_wp2_with (go_at_call 81; refine H.mono ?_; rintro e w' ⟨rfl, rfl⟩)
  go_ret
  exact ⟨rfl, rfl⟩
theorem Int_any (w : World) (n : Int) :
    Calls Tryd.prog 36 #[.int .i64 n] w fun e w' => e = .returned (.int .u64 (mkW 5 n)) ∧ w' = w := by
  have H := Make_any w 5 n (by omega) (by omega)
  go_enter Tryd.func36, Tryd.ntmps36
  go_wp2_with (go_at_call 81; refine H.mono ?_; rintro e w' ⟨rfl, rfl⟩)
  go_ret
  exact ⟨rfl, rfl⟩
end Go.Proofs.YtlhhcocdhkbdnaaDoor.Rd

set_option linter.unusedVariables false
set_option linter.unusedSimpArgs false
set_option maxRecDepth 100000
namespace Go.Proofs.YtlhhcocdhkbdnaaDoor.R10
open Go.RowKit Go.Proofs.YtlhhcocdhkbdnaaDoor.Wd Go.Proofs.YtlhhcocdhkbdnaaDoor.Hp Go.Proofs.YtlhhcocdhkbdnaaDoor.Gp Go.Proofs.YtlhhcocdhkbdnaaDoor.Sm Go.Proofs.YtlhhcocdhkbdnaaDoor.Gr
theorem word_any (w : World) (x : Int) (n : Nat) (hx : Gp.u64 x) :
    Calls Tryd.prog 109 #[.int .u64 x, .int .i64 n] w fun e w' => e = .returned (.bool (isWord x n)) ∧ w' = w := by
  have H1 := Rd.Of_any w x hx.1 hx.2
  have H2 := Rd.Cell_any w x hx.1 hx.2
  have hr := cellN_range x
  unfold isWord
  generalize ofOk x = o at *
  generalize isRef x = r at *
  generalize ofT x = t at *
  generalize ofN x = m at *
  generalize cellN x = c at *
  cases o <;> cases r
  all_goals
    go_enter Tryd.func109, Tryd.ntmps109
    go_wp2_with fail
    refine H1.mono ?_
    rintro e w' ⟨rfl, rfl⟩
    go_wp2_with fail
    refine H2.mono ?_
    rintro e w' ⟨rfl, rfl⟩
    go_wp2_with fail
    go_ret
    exact ⟨by simp, rfl⟩
set_option maxHeartbeats 1000000 in
theorem Check_any (w : World) (ao : Option Addr) (cap : Nat) (h : List Cel) (hn : h.length ≤ 1000000) (hr : RdF w ao (h.length * 4) (flat h) []) (hh : ∀ x ∈ h, InR x) :
    Calls Tryd.prog 108 #[.slice ao h.length cap] w (ChkPost h w) := by
  have HR := Lib.hid hr
  have HH := Lib.hid hh
  obtain ⟨n, hnl⟩ : ∃ n, n = h.length := ⟨_, rfl⟩
  rw [← hnl] at hn ⊢
  have HN := Lib.hid hnl
  clear hr hh hnl
  go_enter Tryd.func108, Tryd.ntmps108
  go_wp2_with fail
  go_loopw [4] (fun i wr => ∃ (k : Nat), k ≤ n ∧ i = .int .i64 k ∧ Ch [] w wr ∧ ∀ j, j < k → okCell h.length (h.getD j z) = true) (fun i _ => n - (intOf i).toNat)
  case atStart => exact ⟨0, by omega, rfl, Ch.refl _ _, fun j hj => absurd hj (by omega)⟩
  case round =>
    obtain ⟨k, hk, rfl, hc, hf⟩ := hrel
    have HC := Lib.hid hc
    have HF := Lib.hid hf
    clear hc hf
    by_cases hlt : k < n
    · have hkl : k < h.length := by rw [← HN.out]; exact hlt
      obtain ⟨b, off, rfl, hbn, hj⟩ := HR.out.2.resolve_left (by omega)
      have hA : ∀ t, t < 4 → wr.cell? ⟨b, off + (k * 4 + t), none⟩ = (celV (h.getD k z))[t]? := fun t ht => by
        have h3 := (hj (k * 4 + t) (by omega)).trans (flat_get h k t hkl ht)
        rw [List.getElem?_eq_getElem (by simp [celV]; omega)] at h3 ⊢
        exact HC.out.cell h3 (by simp)
      have a0 := hA 0 (by omega)
      have a1 := hA 1 (by omega)
      have a2 := hA 2 (by omega)
      have a3 := hA 3 (by omega)
      obtain ⟨i1, i2, i3, i4, i5, i6⟩ := InR.at HH.out k hkl
      have HO : Hid (okCell h.length (h.getD k z) = okCell n (h.getD k z)) := Lib.hid (by rw [HN.out])
      have HKL := Lib.hid hkl
      obtain ⟨x, hx⟩ : ∃ x, x = h.getD k z := ⟨_, rfl⟩
      rw [← hx] at a0 a1 a2 a3 i1 i2 i3 i4 i5 i6
      have HX := Lib.hid hx
      obtain ⟨ck, cc, ca, cb⟩ := x
      simp only [celV, List.getElem?_cons_zero, List.getElem?_cons_succ, Nat.add_zero, ← Nat.add_assoc] at a0 a1 a2 a3
      simp only at i1 i2 i3 i4 i5 i6
      have HCA := Lib.hid ((Ch.refl [] wr).alloc (.cells #[.int .u8 ck, .int .u8 cc, .int .u64 ca, .int .u64 cb] 58))
      have HCW := Lib.hid (HC.out.trans HCA.out (fun t ht => absurd ht (by simp)))
      have WA := word_any (wr.alloc (.cells #[.int .u8 ck, .int .u8 cc, .int .u64 ca, .int .u64 cb] 58)) ca n i5
      have WB := word_any (wr.alloc (.cells #[.int .u8 ck, .int .u8 cc, .int .u64 ca, .int .u64 cb] 58)) cb n i6
      have ltI : (k : Int) < n := by omega
      have HOK : Hid (okCell h.length (h.getD k z) = (!(decide (3 < ck)) && !(decide (2 < cc)) && (ck == 0 || (isWord ca n && isWord cb n)))) := Lib.hid (by rw [HO.out, ← HX.out]; rfl)
      clear hj hbn hA hkl hx HO HX HC HCA
      generalize isWord ca n = ia at *
      generalize isWord cb n = ib at *
      by_cases k3 : 3 < ck
      · go_wp2_with fail
        go_ret2
        exact ChkPost.bad k HKL.out HF.out (by rw [HOK.out]; simp [k3]) HCW.out
      · have k3' : ck ≤ 3 := by omega
        by_cases c2 : 2 < cc
        · go_wp2_with fail
          go_ret2
          exact ChkPost.bad k HKL.out HF.out (by rw [HOK.out]; simp [c2]) HCW.out
        · have c2' : cc ≤ 2 := by omega
          by_cases k0 : ck = 0
          · subst k0
            cases ia <;> cases ib
            all_goals
              go_wp2_with fail
              refine WA.mono ?_
              rintro e w2 ⟨rfl, rfl⟩
              go_wp2_with fail
              refine WB.mono ?_
              rintro e w2 ⟨rfl, rfl⟩
              go_wp2_with fail
              go_roundw
              case rel =>
                refine ⟨k + 1, by omega, by go_num, HCW.out, fun j hj => ?_⟩
                by_cases e : j = k
                · subst e; rw [HOK.out]; simp [c2]
                · exact HF.out j (by omega)
              case measure => simp [intOf]; omega
          · have k0' : (ck != 0) = true := by simpa using k0
            by_cases hab : ia = true ∧ ib = true
            · obtain ⟨rfl, rfl⟩ := hab
              go_wp2_with fail
              refine WA.mono ?_
              rintro e w2 ⟨rfl, rfl⟩
              go_wp2_with fail
              refine WB.mono ?_
              rintro e w2 ⟨rfl, rfl⟩
              go_wp2_with fail
              go_roundw
              case rel =>
                refine ⟨k + 1, by omega, by go_num, HCW.out, fun j hj => ?_⟩
                by_cases e : j = k
                · subst e; rw [HOK.out]; simp [k0, k3, c2]
                · exact HF.out j (by omega)
              case measure => simp [intOf]; omega
            · have hx : Hid ((ia && ib) = false) := Lib.hid (by revert hab; cases ia <;> cases ib <;> simp)
              clear hab
              cases ia <;> cases ib
              · go_wp2_with fail
                refine WA.mono ?_
                rintro e w2 ⟨rfl, rfl⟩
                go_wp2_with fail
                refine WB.mono ?_
                rintro e w2 ⟨rfl, rfl⟩
                go_wp2_with fail
                go_ret2
                exact ChkPost.bad k HKL.out HF.out (by rw [HOK.out]; simp [k0, k3, c2]) HCW.out
              · go_wp2_with fail
                refine WA.mono ?_
                rintro e w2 ⟨rfl, rfl⟩
                go_wp2_with fail
                refine WB.mono ?_
                rintro e w2 ⟨rfl, rfl⟩
                go_wp2_with fail
                go_ret2
                exact ChkPost.bad k HKL.out HF.out (by rw [HOK.out]; simp [k0, k3, c2]) HCW.out
              · go_wp2_with fail
                refine WA.mono ?_
                rintro e w2 ⟨rfl, rfl⟩
                go_wp2_with fail
                refine WB.mono ?_
                rintro e w2 ⟨rfl, rfl⟩
                go_wp2_with fail
                go_ret2
                exact ChkPost.bad k HKL.out HF.out (by rw [HOK.out]; simp [k0, k3, c2]) HCW.out
              · exact absurd hx.out (by simp)
    · obtain rfl : k = n := by omega
      have P : Hid (ChkPost h w (.returned (.tuple #[.int .i64 0, .int .i64 0])) wr) := Lib.hid (ChkPost.good (fun j hj => HF.out j (by rw [HN.out]; exact hj)) HC.out)
      go_wp2_with fail
      go_ret2
      exact P.out
set_option maxHeartbeats 1000000 in
theorem Right_any (w : World) (ao : Option Addr) (cap : Nat) (h : List Cel) (aw : Option Addr) (n cn : Nat) (ws : List Int) (hn : h.length ≤ 1000000) (hn2 : n ≤ 1000000) (hr : RdF w ao (h.length * 4) (flat h) []) (hrw : RdF w aw n (ints .u64 ws) []) (hh : ∀ x ∈ h, InR x) (hu : ∀ v ∈ ws, Gp.u64 v) :
    Calls Tryd.prog 103 #[.slice ao h.length cap, .slice aw n cn] w fun e w' => e = .returned (.bool (may h ws)) ∧ Ch [] w w' := by
  have CK := Check_any w ao cap h hn hr hh
  have HE := checkE_ok h
  have HOR := checkE_or h
  have hl : ws.length = n := by simpa [ints] using hrw.1
  have HM : Hid (may h ws = (h.all (okCell h.length) && ws.all (fun w => isWord w h.length))) := Lib.hid rfl
  have HL := Lib.hid hl
  have HRW := Lib.hid hrw
  have HU := Lib.hid hu
  unfold ChkPost at CK
  clear hr hrw hh hu hl
  have HEQ : Hid ((checkE h == 0) = h.all (okCell h.length)) := Lib.hid (by
    rw [Bool.eq_iff_iff, beq_iff_eq]; exact HE)
  clear HE HOR
  generalize checkE h = ce at *
  generalize checkI h = ci at *
  generalize h.all (okCell h.length) = bh at *
  generalize may h ws = mh at *
  generalize h.length = hl at *
  go_enter Tryd.func103, Tryd.ntmps103
  go_wp2_with fail
  refine CK.mono ?_
  rintro e w2 ⟨rfl, h2⟩
  have H2 := Lib.hid h2
  clear CK h2
  go_wp2_with fail
  go_loopw [7] (fun i wr => ∃ k : Nat, k ≤ n ∧ i = .int .i64 k ∧ (∀ j, j < k → isWord (ws.getD j 0) hl = true) ∧ wr = w2) (fun i _ => n - (intOf i).toNat)
  case atStart => exact ⟨0, by omega, rfl, (fun j hj => absurd hj (by omega)), by first | rfl | trivial⟩
  case round =>
    obtain ⟨k, hk, rfl, hag, rfl⟩ := hrel
    have HG := Lib.hid hag
    clear hag
    by_cases hlt : k < n
    · have hkl : k < ws.length := by rw [HL.out]; exact hlt
      obtain ⟨v, hv⟩ : ∃ v, v = ws.getD k 0 := ⟨_, rfl⟩
      have hvm : v ∈ ws := by rw [hv, show ws.getD k 0 = ws[k] by simp [List.getD, hkl]]; exact List.getElem_mem hkl
      obtain ⟨b, off, rfl, hbn, hj⟩ := HRW.out.2.resolve_left (by omega)
      have c1 := H2.out.cell ((hj k hlt).trans ((ints_get hkl).trans (by rw [← hv]))) (by simp)
      have CL := word_any wr v hl (HU.out v hvm)
      have ltI : (k : Int) < n := by omega
      have HV := Lib.hid hv
      have HVM := Lib.hid hvm
      clear hj hbn hv hvm hkl
      cases hiw : isWord v hl
      · rw [hiw] at CL
        have HIW := Lib.hid hiw
        clear hiw
        go_wp2_with fail
        refine CL.mono ?_
        rintro e w3 ⟨rfl, rfl⟩
        go_wp2_with fail
        go_ret
        refine ⟨?_, H2.out⟩
        have : ws.all (fun w => isWord w hl) = false := by
          rw [List.all_eq_false]
          exact ⟨v, HVM.out, by simp [HIW.out]⟩
        rw [HM.out, this]; simp
      · rw [hiw] at CL
        have HIW := Lib.hid hiw
        clear hiw
        go_wp2_with fail
        refine CL.mono ?_
        rintro e w3 ⟨rfl, rfl⟩
        go_wp2_with fail
        go_roundw
        case rel => exact ⟨k + 1, by omega, by go_num, (fun j hj => by
          rcases Nat.lt_or_ge j k with h | h
          · exact HG.out j h
          · obtain rfl : j = k := by omega
            rw [← HV.out]; exact HIW.out), by first | rfl | trivial⟩
        case measure => simp [intOf]; omega
    · obtain rfl : k = n := by omega
      have hall : ws.all (fun w => isWord w hl) = true := by
        rw [List.all_eq_true]
        intro x hx
        obtain ⟨j, hj, rfl⟩ := List.getElem_of_mem hx
        have := HG.out j (by rw [← HL.out]; exact hj)
        rwa [show ws.getD j 0 = ws[j] by simp [List.getD, hj]] at this
      have HALL := Lib.hid hall
      clear hall
      go_wp2_with fail
      go_ret
      exact ⟨by rw [HM.out, HALL.out, ← HEQ.out]; simp, H2.out⟩
end Go.Proofs.YtlhhcocdhkbdnaaDoor.R10

set_option linter.unusedVariables false
set_option linter.unusedSimpArgs false
set_option maxRecDepth 100000
namespace Go.Proofs.YtlhhcocdhkbdnaaDoor.R10
open Go.RowKit Go.Proofs.YtlhhcocdhkbdnaaDoor.Wd Go.Proofs.YtlhhcocdhkbdnaaDoor.Hp Go.Proofs.YtlhhcocdhkbdnaaDoor.Gp Go.Proofs.YtlhhcocdhkbdnaaDoor.Sm Go.Proofs.YtlhhcocdhkbdnaaDoor.Gr

/-- Where the reference's Order stands: its words, its cells, of each cell whether it is met. -/
structure RS (w0 : World) (mb : Nat) (w : World) (lv ov : Value) (L : List Int) (s : St) (lq oq : List Nat) : Prop where
  lrow : Row w 24 1 lv lq L.length (ints .u64 L)
  orow : Row w 3 1 ov oq s.2.length (nv s.2)
  met : w.heap[mb]? = some (.cells (bv s.1).toArray 4 (0, 0))
  ch : Ch [] w0 w
  lo : ∀ q ∈ lq, w0.heap.size ≤ q ∧ q < w.heap.size ∧ q ≠ mb ∧ q ∉ oq
  oo : ∀ q ∈ oq, w0.heap.size ≤ q ∧ q < w.heap.size ∧ q ≠ mb
  mo : w0.heap.size ≤ mb
theorem RS.chg {w0 w w' : World} {mb : Nat} {lv ov : Value} {L : List Int} {s : St} {lq oq : List Nat} (h : RS w0 mb w lv ov L s lq oq) (hc : Ch [] w w') : RS w0 mb w' lv ov L s lq oq :=
  ⟨h.lrow.ch hc (by simp), h.orow.ch hc (by simp), hc.heap h.met (by simp), h.ch.trans' hc, fun q hq => ⟨(h.lo q hq).1, Nat.lt_of_lt_of_le (h.lo q hq).2.1 hc.size, (h.lo q hq).2.2⟩, fun q hq => ⟨(h.oo q hq).1, Nat.lt_of_lt_of_le (h.oo q hq).2.1 hc.size, (h.oo q hq).2.2⟩, h.mo⟩
theorem RS.setMet {w0 w : World} {mb : Nat} {lv ov : Value} {L : List Int} {ms : List Bool} {l : List Nat} {lq oq : List Nat} (h : RS w0 mb w lv ov L (ms, l) lq oq) (c : Nat) : RS w0 mb (w.setCell ⟨mb, c, none⟩ (.bool true)) lv ov L (ms.set c true, l) lq oq := by
  have hs : (w.setCell ⟨mb, c, none⟩ (.bool true)).heap.size = w.heap.size := by simp [World.setCell]
  refine ⟨h.lrow.keep (fun q hq o ho => (heap_set_ne (h.lo q hq).2.2.1).trans ho), h.orow.keep (fun q hq o ho => (heap_set_ne (h.oo q hq).2.2).trans ho), ?_, h.ch.setCell _ _ (.inr h.mo), ?_, ?_, h.mo⟩
  · rw [← bv_set]; exact heap_set h.met _
  · rw [hs]; exact h.lo
  · rw [hs]; exact h.oo
theorem RS.pushOut {w0 w w' : World} {mb : Nat} {lv ov v' : Value} {L : List Int} {ms : List Bool} {l : List Nat} {lq oq oq' : List Nat} (h : RS w0 mb w lv ov L (ms, l) lq oq) (c : Nat)
    (hr : Row w' 3 1 v' oq' (l.length + 1) (nv l ++ [.int .i64 c])) (hc : Ch oq w w') (hq : oq' = oq ∨ ∃ q', oq' = [q'] ∧ w.heap.size ≤ q' ∧ q' < w'.heap.size) : RS w0 mb w' lv v' L (ms, l ++ [c]) lq oq' := by
  have hm := lt_of h.met
  have hsz := hc.size
  refine ⟨h.lrow.ch hc (fun q hq' => (h.lo q hq').2.2.2), ?_, hc.heap h.met (fun hm => (h.oo _ hm).2.2 rfl), h.ch.trans hc (fun x hx => .inr (h.oo x hx).1), fun q hq' => ?_, fun q hq' => ?_, h.mo⟩
  · rw [nv_snoc, List.length_append]; exact hr
  · have := h.lo q hq'
    refine ⟨this.1, by omega, this.2.2.1, ?_⟩
    rcases hq with rfl | ⟨q', rfl, h1, h2⟩
    · exact this.2.2.2
    · simp; omega
  · rcases hq with rfl | ⟨q', rfl, h1, h2⟩
    · have := h.oo q hq'; exact ⟨this.1, by omega, this.2.2⟩
    · simp at hq'; subst hq'
      have := h.ch.size
      exact ⟨by omega, h2, by omega⟩
theorem RS.pushL {w0 w w' : World} {mb : Nat} {lv ov v' : Value} {L M : List Int} {s : St} {lq oq lq' : List Nat} (h : RS w0 mb w lv ov L s lq oq)
    (hr : Row w' 24 1 v' lq' (L.length + M.length) (ints .u64 L ++ ints .u64 M)) (hc : Ch lq w w') (hq : lq' = lq ∨ ∃ q', lq' = [q'] ∧ w.heap.size ≤ q' ∧ q' < w'.heap.size) : RS w0 mb w' v' ov (L ++ M) s lq' oq := by
  have hm := lt_of h.met
  have hsz := hc.size
  refine ⟨?_, h.orow.ch hc (fun q hq' hm => (h.lo q hm).2.2.2 hq'), hc.heap h.met (fun hm => (h.lo _ hm).2.2.1 rfl), h.ch.trans hc (fun x hx => .inr (h.lo x hx).1), fun q hq' => ?_, fun q hq' => ?_, h.mo⟩
  · rw [List.length_append, show ints .u64 (L ++ M) = ints .u64 L ++ ints .u64 M by simp [ints]]; exact hr
  · rcases hq with rfl | ⟨q', rfl, h1, h2⟩
    · have := h.lo q hq'; exact ⟨this.1, by omega, this.2.2⟩
    · simp at hq'; subst hq'
      have := h.ch.size
      exact ⟨by omega, h2, by omega, fun hm => by have := h.oo _ hm; omega⟩
  · have := h.oo q hq'; exact ⟨this.1, by omega, this.2.2⟩
theorem rowW_u {h : List Cel} {ws : List Int} (hh : ∀ x ∈ h, InR x) (hu : ∀ v ∈ ws, Gp.u64 v) {s : St} (hi : Inv h.length s) : ∀ v ∈ rowW h ws s, Gp.u64 v := by
  intro v hv
  unfold rowW at hv
  rw [List.mem_append, List.mem_flatMap] at hv
  rcases hv with hv | ⟨c, hc, hv⟩
  · exact hu v hv
  · have hc' := ((hi.mem c).1 hc).1
    obtain ⟨_, _, _, _, h5, h6⟩ := InR.at hh c hc'
    unfold wordsOf at hv
    split at hv
    · cases hv
    · simp at hv
      rcases hv with rfl | rfl
      · exact h5
      · exact h6
/-- What Order answers. -/
def Ord10 (h : List Cel) (ws : List Int) (w : World) (e : Ending) (w' : World) : Prop :=
  ∃ (v : Value) (qs : List Nat), e = .returned v ∧ Row w' 3 1 v qs (order h ws).2.length (nv (order h ws).2) ∧ Ch [] w w' ∧ ∀ q ∈ qs, w.heap.size ≤ q
set_option maxHeartbeats 4000000 in
theorem Order_any (w : World) (ao : Option Addr) (cap : Nat) (h : List Cel) (aw : Option Addr) (m cw : Nat) (ws : List Int) (hn : h.length ≤ 1000000) (hm : m ≤ 1000000)
    (hr : RdF w ao (h.length * 4) (flat h) []) (hrw : RdF w aw m (ints .u64 ws) []) (hh : ∀ x ∈ h, InR x) (hu : ∀ v ∈ ws, Gp.u64 v) (hmay : may h ws = true) :
    Calls Tryd.prog 75 #[.slice ao h.length cap, .slice aw m cw] w (Ord10 h ws w) := by
  obtain ⟨n, hnl⟩ : ∃ n, n = h.length := ⟨_, rfl⟩
  have hn' : n ≤ 1000000 := by rw [hnl]; exact hn
  have hmk : ∀ w : World, _ := fun w => run_make_bools w n (by omega)
  have hwl : ws.length = m := by simpa [ints] using hrw.1
  obtain ⟨i0, hi, he⟩ := Option.map_eq_some_iff.1 infoWord
  simp only [Prod.mk.injEq] at he
  obtain ⟨hz0, hz1, hz2⟩ := he
  obtain ⟨i1, hi1, he1⟩ := Option.map_eq_some_iff.1 infoInt
  simp only [Prod.mk.injEq] at he1
  obtain ⟨hy0, hy1, hy2⟩ := he1
  have C0 : Ch [] w (w.alloc (.cells (bv (List.replicate n false)).toArray 4)) := (Ch.refl _ _).alloc _
  have HC0 := Lib.hid C0
  have HM0 := Lib.hid (heap_new w (.cells (bv (List.replicate n false)).toArray 4))
  have HRW := Lib.hid (hrw.ch (T' := []) C0 (by simp)).rd
  have HR := Lib.hid hr
  have HH := Lib.hid hh
  have HU := Lib.hid hu
  have HMAY := Lib.hid hmay
  have HWL := Lib.hid hwl
  have HN := Lib.hid hnl
  have H1C : Hid (∀ u ∈ ints .u64 ws, u.oneCell' = true) := Lib.hid (fun u hu => by simp [ints] at hu; obtain ⟨v, _, rfl⟩ := hu; rfl)
  obtain ⟨R, hR⟩ : ∃ R, R = Ord10 h ws w := ⟨_, rfl⟩
  have HRR := Lib.hid hR
  rw [← hR, ← hnl]
  clear hr hrw hh hu hmay hwl hnl C0 hR hn
  go_enter Tryd.func75, Tryd.ntmps75
  go_wp2_with (at_builtin; go_loud (refine wpList_append_copy _ rfl _ _ 62 rfl 24 i0 _ 1 8 Tryd.underlying62 hi hz0 hz1 hz2 rfl (by decide) rfl aw m cw rfl (ints .u64 ws) (by have := HRW.out; rwa [Nat.mul_one]) H1C.out (by unfold maxLen; omega) (by omega) ?_))
  intro v1 w1 q1 g1 g2 g3
  obtain ⟨a1, c1, rfl, r1, r2, _⟩ := g1.rd
  have S0 : Hid (RS w w.heap.size w1 (.slice a1 m c1) (.slice none 0 0) ws (List.replicate n false, []) q1 []) := Lib.hid ⟨by rw [HWL.out]; exact g1, Row.nil _ _ _ _, g2.heap HM0.out (by simp), HC0.out.trans' g2, fun q hq => by
    have := g2.size
    rcases g3 with rfl | ⟨q', rfl, h1, h2⟩
    · simp at hq
    · simp at hq; subst hq; simp at h1 ⊢; omega, by simp, Nat.le_refl _⟩
  clear g1 g2 g3
  go_wp2_with fail
  go_loopw [8, 7, 5] (fun i lv ov wr => ∃ (k : Nat) (lq oq : List Nat), i = .int .i64 k ∧ k ≤ (rowW h ws (refK h ws k)).length ∧ RS w w.heap.size wr lv ov (rowW h ws (refK h ws k)) (refK h ws k) lq oq) (fun i _ _ _ => m + 2 * n - (intOf i).toNat)
  case atStart => exact ⟨0, q1, [], rfl, by omega, by have := S0.out; simp only [refK, rowW, List.flatMap_nil, List.append_nil]; rw [← HN.out]; exact this⟩
  case round =>
    obtain ⟨k, lq, oq, rfl, hk, hrs⟩ := hrel
    clear S0
    have hinv := refK_inv HMAY.out k
    have hle := rowW_le h ws hinv
    rw [HWL.out, ← HN.out] at hle
    obtain ⟨al, cl, rfl, l1, l2, l3⟩ := hrs.lrow.rd
    obtain ⟨ab, cb, rfl, o1, o2, o3⟩ := hrs.orow.rd
    by_cases hlt : k < (rowW h ws (refK h ws k)).length
    · obtain ⟨x, hx⟩ : ∃ x, (rowW h ws (refK h ws k))[k]? = some x := ⟨_, List.getElem?_eq_getElem hlt⟩
      have hxm := List.mem_of_getElem? hx
      have hxu := rowW_u HH.out HU.out hinv x hxm
      have hxc := rowW_mem HMAY.out hinv hxm
      have NX := Lib.hid (refK_next hx)
      obtain ⟨b, off, rfl, hj⟩ := l3.2.resolve_left (by omega)
      have a1 := hj k (by omega)
      rw [show (ints .u64 (rowW h ws (refK h ws k)))[k]? = some (.int .u64 x) by simp [ints, hx]] at a1
      have CC := Rd.Cell_any wr x hxu.1 hxu.2
      have hrg := cellN_range x
      have HRS := Lib.hid hrs
      have ltI : (k : Int) < (rowW h ws (refK h ws k)).length := by omega
      have HLE := Lib.hid hle
      have HINV := Lib.hid hinv
      have HK : Hid (∀ s', refK h ws (k + 1) = s' → k + 1 ≤ (rowW h ws s').length) := Lib.hid (fun s' hs' => by
        rw [← hs', NX.out]
        obtain ⟨t, ht⟩ := rowW_pre h ws (refK h ws k) x
        rw [ht, List.length_append]; omega)
      clear hxm hxu hx hj l3 o3 hrs hinv
      generalize hs : refK h ws k = s at *
      have HS := Lib.hid hs
      generalize hL : rowW h ws s = L at *
      have HLL := Lib.hid hL.symm
      obtain ⟨ms, l⟩ := s
      simp only at o1
      generalize hnl : L.length = nl at *
      have HNL := Lib.hid hnl.symm
      have hno' : l.length ≤ 1000000 := by have := HINV.out.le; rw [← HN.out] at this; exact Nat.le_trans this hn'
      clear hs hL hnl
      generalize hno : l.length = no at *
      have HNO := Lib.hid hno.symm
      clear hno
      cases href : isRef x
      · rw [href] at CC
        have e1 : stepW (ms, l) x = (ms, l) := by unfold stepW; rw [href]; rfl
        have E1 := Lib.hid e1
        clear e1 href hxc
        generalize cellN x = cv at *
        go_wp2_with fail
        refine CC.mono ?_
        rintro e w2 ⟨rfl, rfl⟩
        clear CC
        go_wp2_with fail
        go_roundw
        case rel => exact ⟨k + 1, lq, oq, by go_num, HK.out _ rfl, by rw [NX.out, E1.out, ← HLL.out]; exact HRS.out⟩
        case measure => have := HLE.out; simp [intOf]; omega
      · rw [href] at CC
        have hcn := hxc href
        obtain ⟨c, hc⟩ : ∃ c : Nat, c = (cellN x).toNat := ⟨_, rfl⟩
        have hcv : cellN x = (c : Int) := by omega
        rw [← hc, ← HN.out] at hcn
        rw [hcv] at CC
        have hlm : ms.length = n := by have := HINV.out.len; rw [← HN.out] at this; exact this
        have b1 := cell_at (i := c) HRS.out.met
        rw [List.getElem?_toArray, bv_at _ _ (by rw [hlm]; exact hcn)] at b1
        have b2 := free_at (i := c) HRS.out.met
        have ltC : (c : Int) < n := by omega
        have E0 : Hid (stepW (ms, l) x = meet (ms, l) c) := Lib.hid (by unfold stepW; rw [href, if_pos rfl, hc])
        have HCN := Lib.hid hcn
        have HLM := Lib.hid hlm
        clear href hxc hc hcv hlm hrg
        cases hb : ms.getD c true
        · rw [hb] at b1
          have E1 : Hid (stepW (ms, l) x = (ms.set c true, l ++ [c])) := Lib.hid (by rw [E0.out]; unfold meet; rw [show (ms, l).1.getD c true = false from hb]; rfl)
          obtain ⟨bh, offh, rfl, hbhn, hjh⟩ := HR.out.2.resolve_left (by rw [← HN.out]; omega)
          have hch : c < h.length := by rw [← HN.out]; exact hcn
          have hA : ∀ W, Ch [] w W → ∀ t, t < 4 → W.cell? ⟨bh, offh + (c * 4 + t), none⟩ = (celV (h.getD c z))[t]? := fun W hcW t ht => by
            have h3 := (hjh (c * 4 + t) (by omega)).trans (flat_get h c t hch ht)
            rw [List.getElem?_eq_getElem (by simp [celV]; omega)] at h3 ⊢
            exact hcW.cell h3 (by simp)
          have HA := Lib.hid hA
          have HWO : Hid (wordsOf h c = if (h.getD c z).k = 0 then [] else [(h.getD c z).a, (h.getD c z).b]) := Lib.hid rfl
          have S1 := Lib.hid ((HRS.out.setMet c).chg ((Ch.refl [] _).alloc (.cells #[.int .i64 c] 3)))
          have HN1 := Lib.hid (newL (w := wr.setCell ⟨w.heap.size, c, none⟩ (.bool true)) (b := wr.heap.size) (by simp [World.setCell]) [.int .i64 c] 3)
          have hrow : Row ((wr.setCell ⟨w.heap.size, c, none⟩ (.bool true)).alloc (.cells #[.int .i64 c] 3)) 3 1 (.slice ab no cb) oq l.length (nv l) := S1.out.orow
          rw [← HNO.out] at hrow
          have HROW := Lib.hid hrow
          clear hrow hb hbhn hjh hA hch hcn
          go_wp2_with fail
          refine CC.mono ?_
          rintro e w2 ⟨rfl, rfl⟩
          clear CC
          go_wp2_with (at_builtin; go_loud (refine wpList_append_row _ rfl _ _ 50 rfl 3 i1 _ 1 8 Tryd.underlying50 hi1 hy0 hy1 hy2 rfl (by decide) rfl HROW.out ⟨w2.heap.size, 0, none⟩ 1 1 [.int .i64 c] rfl rfl HN1.out (one1 _ _) (by unfold maxLen; omega) (by omega) ?_))
          intro v' w3 oq' hr4 hc4 hq4
          have S2 := Lib.hid (S1.out.pushOut c (by rw [← HNO.out]; exact hr4) hc4 (by simpa using hq4))
          obtain ⟨ao4, cap4, rfl, _⟩ := hr4.rd
          clear hr4 hc4 hq4 a1 b1 b2 HN1 HROW S1
          have d0 := HA.out w3 S2.out.ch 0 (by omega)
          have d2 := HA.out w3 S2.out.ch 2 (by omega)
          have d3 := HA.out w3 S2.out.ch 3 (by omega)
          obtain ⟨y, hy⟩ : ∃ y, y = h.getD c z := ⟨_, rfl⟩
          rw [← hy] at d0 d2 d3 HWO
          obtain ⟨ck, cc, ca, cb⟩ := y
          have hy' := hy.symm
          simp only [celV, List.getElem?_cons_zero, List.getElem?_cons_succ, Nat.add_zero, ← Nat.add_assoc] at d0 d2 d3
          simp only at HWO
          have HY2 := Lib.hid (fun W hW => HA.out W hW 2 (by omega))
          have HY3 := Lib.hid (fun W hW => HA.out W hW 3 (by omega))
          rw [hy'] at HY2 HY3
          simp only [celV, List.getElem?_cons_zero, List.getElem?_cons_succ, Nat.add_zero, ← Nat.add_assoc] at HY2 HY3
          have RW : Hid (rowW h ws (ms.set c true, l ++ [c]) = L ++ wordsOf h c) := Lib.hid (by rw [HLL.out]; simp [rowW])
          clear hy HA hy'
          by_cases k0 : ck = 0
          · subst k0
            rw [if_pos rfl] at HWO
            go_wp2_with fail
            go_roundw
            case rel => exact ⟨k + 1, lq, oq', by go_num, HK.out _ rfl, by rw [NX.out, E1.out, RW.out, HWO.out, List.append_nil]; exact S2.out⟩
            case measure => have := HLE.out; simp [intOf]; omega
          · rw [if_neg k0] at HWO
            have k0' : (ck != 0) = true := by simpa using k0
            go_wp2_with fail
            have HCW3 := Lib.hid S2.out.ch
            have HD2 : Hid (∀ W, Ch [] w W → W.cell? ⟨bh, offh + c * 4 + 2, none⟩ = some (.int .u64 ca)) := Lib.hid (fun W hW => HY2.out W hW)
            have HD3 : Hid (∀ W, Ch [] w W → W.cell? ⟨bh, offh + c * 4 + 3, none⟩ = some (.int .u64 cb)) := Lib.hid (fun W hW => HY3.out W hW)
            have S3 := Lib.hid ((S2.out.chg ((Ch.refl [] w3).drew)).chg ((Ch.refl [] _).alloc (.cells #[.int .u64 ca, .int .u64 cb] 24)))
            have HN2 := Lib.hid (newL (w := w3.drew) (b := w3.heap.size) rfl [.int .u64 ca, .int .u64 cb] 24)
            have HROW := Lib.hid S3.out.lrow
            rw [← HNL.out] at HROW
            have FIN : Hid (∀ (w5 : World) (v' : Value) (lq' : List Nat), Row w5 24 1 v' lq' (nl + 2) (ints .u64 L ++ [.int .u64 ca, .int .u64 cb]) → Ch lq (w3.drew.alloc (.cells #[.int .u64 ca, .int .u64 cb] 24)) w5 → (lq' = lq ∨ ∃ q', lq' = [q'] ∧ (w3.drew.alloc (.cells #[.int .u64 ca, .int .u64 cb] 24)).heap.size ≤ q' ∧ q' < w5.heap.size) →
                RS w w.heap.size w5 v' (.slice ao4 (no + 1) cap4) (rowW h ws (refK h ws (k + 1))) (refK h ws (k + 1)) lq' oq' ∧ Ch [] w w5) := Lib.hid (fun w5 v' lq' hr4 hc4 hq4 => by
              have S4 := S3.out.pushL (M := [ca, cb]) (by rw [← HNL.out]; exact hr4) hc4 hq4
              rw [NX.out, E1.out, RW.out, HWO.out]
              exact ⟨S4, S4.ch⟩)
            have HK1 := Lib.hid (HK.out _ rfl)
            clear S2 S3 HINV HK NX E1 RW HWO HS HLL HNO HNL HLM HCN E0 HR HH HU HMAY HRS HN HWL
            go_region_held3 (fun w' => w'.cell? ⟨bh, offh + c * 4 + 2, none⟩ = some (.int .u64 ca) ∧ w'.cell? ⟨bh, offh + c * 4 + 3, none⟩ = some (.int .u64 cb)) (refine ⟨HD2.out _ ?_, HD3.out _ ?_⟩ <;> repeat (first | exact HCW3.out | exact HCW5.out | apply Ch.drew | apply Ch.alloc))
              (first | (refine step_append_row (by rfl) _ _ 62 (by rfl) 24 i0 (.int .u64 0) 1 8 Tryd.underlying62 hi hz0 hz1 hz2 rfl (by decide) (by rfl) HROW.out ⟨w3.heap.size, 0, none⟩ 2 2 [.int .u64 ca, .int .u64 cb] (by rfl) rfl HN2.out (one2 _ _ _ _) (by unfold maxLen; omega) (by omega) ?_; intro v' w5 lq' hr4 hc4 hq4; have Z4 := FIN.out w5 v' lq' hr4 hc4 hq4; obtain ⟨ao5, cap5, rfl, _⟩ := hr4.rd; have HCW5 := Lib.hid Z4.2; have Z5 := Lib.hid Z4.1; have K2 := HD2.out w5 Z4.2; have K3 := HD3.out w5 Z4.2; clear hr4 hc4 hq4 Z4))
            all_goals
              go_wp2_with fail
              go_roundw
              case rel => exact ⟨k + 1, lq', oq', by go_num, HK1.out, Z5.out⟩
              case measure => have := HLE.out; simp [intOf]; omega
        · rw [hb] at b1
          have E1 : Hid (stepW (ms, l) x = (ms, l)) := Lib.hid (by rw [E0.out]; unfold meet; rw [show (ms, l).1.getD c true = true from hb]; rfl)
          clear hb
          go_wp2_with fail
          refine CC.mono ?_
          rintro e w2 ⟨rfl, rfl⟩
          clear CC
          go_wp2_with fail
          go_roundw
          case rel => exact ⟨k + 1, lq, oq, by go_num, HK.out _ rfl, by rw [NX.out, E1.out, ← HLL.out]; exact HRS.out⟩
          case measure => have := HLE.out; simp [intOf]; omega
    · have hend := refK_end HMAY.out (k := k) (by omega)
      have ltI : ¬ (k : Int) < (rowW h ws (refK h ws k)).length := by omega
      have Z : Hid (Ord10 h ws w (.returned (.slice ab (refK h ws k).2.length cb)) wr) := Lib.hid ⟨_, oq, rfl, by rw [← hend]; exact hrs.orow, hrs.ch, fun q hq => (hrs.oo q hq).1⟩
      clear hrs l3 o3 hinv hend
      generalize (rowW h ws (refK h ws k)).length = len at *
      generalize (refK h ws k).2.length = olen at *
      go_wp2_with fail
      rw [HRR.out]
      exact Z.out
def markK (n : Nat) (l : List Nat) : Nat → List Bool
  | 0 => List.replicate n false
  | k + 1 => (markK n l k).set (l.getD k 0) true
theorem markK_len (n : Nat) (l : List Nat) : ∀ k, (markK n l k).length = n
  | 0 => by simp [markK]
  | k + 1 => by simp [markK, markK_len n l k]
theorem markK_at (n : Nat) (l : List Nat) : ∀ k c, k ≤ l.length → c < n → (markK n l k)[c]? = some (decide (c ∈ l.take k))
  | 0, c, _, hc => by simp [markK, hc]
  | k + 1, c, hk, hc => by
    have ih := markK_at n l k c (by omega) hc
    have ht := take_snoc l k 0 (by omega)
    rw [markK, ht]
    by_cases e : l.getD k 0 = c
    · rw [e, List.getElem?_set_self (by rw [markK_len]; exact hc)]
      simp
    · rw [List.getElem?_set_ne e, ih]
      have : (c ∈ l.take k ++ [l.getD k 0]) ↔ c ∈ l.take k := by
        rw [List.mem_append, List.mem_singleton]
        exact ⟨fun h => h.resolve_right (fun h => e h.symm), .inl⟩
      simp only [this]
theorem markK_order {h : List Cel} {ws : List Int} (hm : may h ws = true) : markK h.length (order h ws).2 (order h ws).2.length = (order h ws).1 := by
  have hi := order_inv hm
  apply List.ext_getElem?
  intro c
  rcases Nat.lt_or_ge c h.length with hc | hc
  · rw [markK_at _ _ _ _ (Nat.le_refl _) hc, List.take_length]
    have hl := hi.len
    have := hi.mem c
    have e1 : (order h ws).1.getD c true = (order h ws).1[c]'(by omega) := by simp [List.getD, show c < (order h ws).1.length by omega]
    rw [e1] at this
    rw [List.getElem?_eq_getElem (by omega)]
    congr 1
    rw [Bool.eq_iff_iff, decide_eq_true_eq, this]
    exact ⟨fun h => h.2, fun h => ⟨hc, h⟩⟩
  · rw [List.getElem?_eq_none (by rw [markK_len]; exact hc), List.getElem?_eq_none (by rw [hi.len]; exact hc)]
set_option maxHeartbeats 1000000 in
theorem Reach_any (w : World) (ao : Option Addr) (cap : Nat) (h : List Cel) (aw : Option Addr) (m cw : Nat) (ws : List Int) (hn : h.length ≤ 1000000) (hm : m ≤ 1000000)
    (hr : RdF w ao (h.length * 4) (flat h) []) (hrw : RdF w aw m (ints .u64 ws) []) (hh : ∀ x ∈ h, InR x) (hu : ∀ v ∈ ws, Gp.u64 v) (hmay : may h ws = true) :
    Calls Tryd.prog 29 #[.slice ao h.length cap, .slice aw m cw] w fun e w' => ∃ mb : Nat, e = .returned (.slice (some ⟨mb, 0, none⟩) h.length h.length) ∧ w'.heap[mb]? = some (.cells (bv (order h ws).1).toArray 4 (0, 0)) ∧ Ch [] w w' ∧ w.heap.size ≤ mb := by
  obtain ⟨n, hnl⟩ : ∃ n, n = h.length := ⟨_, rfl⟩
  have hn' : n ≤ 1000000 := by rw [hnl]; exact hn
  have hmk : ∀ w : World, _ := fun w => run_make_bools w n (by omega)
  have C0 : Ch [] w (w.alloc (.cells (bv (List.replicate n false)).toArray 4)) := (Ch.refl _ _).alloc _
  have O := Order_any (w.alloc (.cells (bv (List.replicate n false)).toArray 4)) ao cap h aw m cw ws hn hm (hr.ch C0 (by simp)) (hrw.ch C0 (by simp)) hh hu hmay
  have HC0 := Lib.hid C0
  have HM0 := Lib.hid (heap_new w (.cells (bv (List.replicate n false)).toArray 4))
  have HLT : Hid (∀ j, j < (order h ws).2.length → (order h ws).2.getD j 0 < n) := Lib.hid (fun j hj => by rw [hnl]; exact inv_lt (order_inv hmay) j hj)
  have hko : (order h ws).2.length ≤ n := by rw [hnl]; exact (order_inv hmay).le
  have HE := Lib.hid (markK_order hmay)
  rw [← hnl] at HE
  obtain ⟨l, hl⟩ : ∃ l, l = (order h ws).2 := ⟨_, rfl⟩
  unfold Ord10 at O
  rw [← hl] at HLT hko HE O
  obtain ⟨k, hk⟩ : ∃ k, k = l.length := ⟨_, rfl⟩
  rw [← hk] at HLT hko HE O
  rw [← hnl] at O ⊢
  have HK := Lib.hid hk
  clear hr hrw hh hu hmay hnl C0 hl hn hk
  go_enter Tryd.func29, Tryd.ntmps29
  go_wp2_with fail
  refine O.mono ?_
  rintro e w2 ⟨v, qs, rfl, g1, g2, g3⟩
  obtain ⟨al, cl, rfl, r1, r2, r3⟩ := g1.rd
  have HR := Lib.hid r3
  have HQ := Lib.hid (g2.heap HM0.out (by simp))
  have HCW := Lib.hid (HC0.out.trans' g2)
  have HNE : Hid (w.heap.size ∉ qs) := Lib.hid (fun hm => by have := g3 _ hm; rw [World.size_alloc] at this; omega)
  have HROW := Lib.hid g1
  clear O g1 g2 g3 r3 hmk HC0 HM0
  go_wp2_with fail
  go_loopw [7] (fun i wr => ∃ j : Nat, i = .int .i64 j ∧ j ≤ k ∧ wr.heap[w.heap.size]? = some (.cells (bv (markK n l j)).toArray 4 (0, 0)) ∧ Ch [w.heap.size] w2 wr) (fun i _ => k - (intOf i).toNat)
  case atStart => exact ⟨0, rfl, by omega, HQ.out, Ch.refl _ _⟩
  case round =>
    obtain ⟨j, rfl, hjk, hb, hc⟩ := hrel
    by_cases hlt : j < k
    · have hcn := HLT.out j hlt
      have hrr := (HROW.out.ch hc (fun q hq hm => HNE.out (by simp at hm; exact hm ▸ hq))).rd
      obtain ⟨ao', cap', he, _, _, _, hh⟩ := hrr
      simp only [Value.slice.injEq, true_and] at he
      obtain ⟨rfl, rfl⟩ := he
      obtain ⟨b, off, rfl, hj⟩ := hh.resolve_left (by omega)
      have a1 := (hj j (by omega)).trans (nv_at _ _ (by rw [← HK.out]; exact hlt))
      have HS : Hid (markK n l (j + 1) = (markK n l j).set (l.getD j 0) true) := Lib.hid rfl
      generalize l.getD j 0 = c at *
      have a3 := cell_at (i := c) hb
      rw [List.getElem?_toArray, bv_at _ _ (by rw [markK_len]; exact hcn)] at a3
      have f3 := free_at (i := c) hb
      have ltI : (c : Int) < n := by omega
      have ltJ : (j : Int) < k := by omega
      have HB := Lib.hid hb
      have HC := Lib.hid hc
      clear hj hb hc
      go_wp2_with fail
      go_roundw
      case rel => exact ⟨j + 1, by go_num, by omega, by rw [HS.out, ← bv_set]; exact heap_set HB.out _, HC.out.setCell _ _ (.inl (by simp))⟩
      case measure => simp [intOf]; omega
    · obtain rfl : k = j := by omega
      have HB := Lib.hid hb
      have HC : Hid (Ch [] w wr) := Lib.hid (HCW.out.trans hc (fun x hx => .inr (by simp at hx; omega)))
      clear hb hc
      go_wp2_with fail
      go_ret
      exact ⟨w.heap.size, rfl, by rw [← HE.out]; exact HB.out, HC.out, Nat.le_refl _⟩
end Go.Proofs.YtlhhcocdhkbdnaaDoor.R10
