/-
  THE WALKS of package dappleref01: each function comes to WordsPure's number, and leaves the world as it is.
  THE WALKS of dappleref10: word, Check, Right, renamed.
-/
import Derived.Test.YtggijcebobjghaaDoorProg
import Derived.Test.YtggijcebobjghaaDoorQJWords
import Derived.WalkKit
import Derived.KernelRfl
import Derived.Test.YtggijcebobjghaaDoorQJReachP
set_option linter.unusedSimpArgs false
set_option linter.unusedVariables false
namespace Go.Proofs.YtggijcebobjghaaDoor.Rd
open Go.RowKit Go.Proofs.YtggijcebobjghaaDoor.Wd

set_option maxHeartbeats 1000000 in
theorem May_any (w : World) (t n : Int) (h0 : 0 ≤ t) (h1 : t ≤ 255) :
    Calls Tryd.prog 83 #[.int .u8 t, .int .i64 n] w fun e w' => e = .returned (.bool (mkOk t n)) ∧ w' = w := by
  by_cases ht : 1 ≤ t ∧ t ≤ 8
  · obtain ⟨ha, hb⟩ := ht
    obtain rfl | rfl | rfl | rfl | rfl | rfl | rfl | rfl : t = 1 ∨ t = 2 ∨ t = 3 ∨ t = 4 ∨ t = 5 ∨ t = 6 ∨ t = 7 ∨ t = 8 := by omega
    · have e : mkOk 1 n = (n == 0) := by rw [Bool.eq_iff_iff]; simp [mkOk, okT, okN, lo, hi]; omega
      rw [e]; clear e
      go_enter Tryd.func83, Tryd.ntmps83
      go_wp2
      go_ret
      exact ⟨rfl, rfl⟩
    · have e : mkOk 2 n = (n == 0) := by rw [Bool.eq_iff_iff]; simp [mkOk, okT, okN, lo, hi]; omega
      rw [e]; clear e
      go_enter Tryd.func83, Tryd.ntmps83
      go_wp2
      go_ret
      exact ⟨rfl, rfl⟩
    · have e : mkOk 3 n = (n == 0) := by rw [Bool.eq_iff_iff]; simp [mkOk, okT, okN, lo, hi]; omega
      rw [e]; clear e
      go_enter Tryd.func83, Tryd.ntmps83
      go_wp2
      go_ret
      exact ⟨rfl, rfl⟩
    · have e : mkOk 4 n = (n == 0) := by rw [Bool.eq_iff_iff]; simp [mkOk, okT, okN, lo, hi]; omega
      rw [e]; clear e
      go_enter Tryd.func83, Tryd.ntmps83
      go_wp2
      go_ret
      exact ⟨rfl, rfl⟩
    · have e : mkOk 5 n = (decide (-576460752303423488 ≤ n) && decide (n ≤ 576460752303423487)) := by simp [mkOk, okT, okN, lo, hi]
      rw [e]; clear e
      go_enter Tryd.func83, Tryd.ntmps83
      go_wp2
      all_goals go_ret
      · have : -576460752303423488 ≤ n := by assumption
        exact ⟨by simp [this], rfl⟩
      · have : ¬ -576460752303423488 ≤ n := by omega
        exact ⟨by simp [this], rfl⟩
    · have e : mkOk 6 n = (decide (0 ≤ n) && decide (n ≤ 2147483647)) := by simp [mkOk, okT, okN, lo, hi]
      rw [e]; clear e
      go_enter Tryd.func83, Tryd.ntmps83
      go_wp2
      all_goals go_ret
      · have : 0 ≤ n := by assumption
        exact ⟨by simp [this], rfl⟩
      · have : ¬ 0 ≤ n := by omega
        exact ⟨by simp [this], rfl⟩
    · have e : mkOk 7 n = (decide (1 ≤ n) && decide (n ≤ 22)) := by simp [mkOk, okT, okN, lo, hi]
      rw [e]; clear e
      go_enter Tryd.func83, Tryd.ntmps83
      go_wp2
      all_goals go_ret
      · have : 1 ≤ n := by assumption
        exact ⟨by simp [this], rfl⟩
      · have : ¬ 1 ≤ n := by omega
        exact ⟨by simp [this], rfl⟩
    · have e : mkOk 8 n = (decide (0 ≤ n) && decide (n ≤ 2147483647)) := by simp [mkOk, okT, okN, lo, hi]
      rw [e]; clear e
      go_enter Tryd.func83, Tryd.ntmps83
      go_wp2
      all_goals go_ret
      · have : 0 ≤ n := by assumption
        exact ⟨by simp [this], rfl⟩
      · have : ¬ 0 ≤ n := by omega
        exact ⟨by simp [this], rfl⟩
  · have e : mkOk t n = false := by simp [mkOk, okT]; omega
    rw [e]
    have c1 : (t == 1) = false := by rw [beq_eq_false_iff_ne]; omega
    have c2 : (t == 2) = false := by rw [beq_eq_false_iff_ne]; omega
    have c3 : (t == 3) = false := by rw [beq_eq_false_iff_ne]; omega
    have c4 : (t == 4) = false := by rw [beq_eq_false_iff_ne]; omega
    have c5 : (t == 5) = false := by rw [beq_eq_false_iff_ne]; omega
    have c6 : (t == 6) = false := by rw [beq_eq_false_iff_ne]; omega
    have c7 : (t == 7) = false := by rw [beq_eq_false_iff_ne]; omega
    have c8 : (t == 8) = false := by rw [beq_eq_false_iff_ne]; omega
    clear e ht
    go_enter Tryd.func83, Tryd.ntmps83
    go_wp2
    go_ret
    exact ⟨rfl, rfl⟩

theorem Make_any (w : World) (t n : Int) (h0 : 0 ≤ t) (h255 : t ≤ 255) :
    Calls Tryd.prog 75 #[.int .u8 t, .int .i64 n] w fun e w' => e = .returned (.tuple #[.int .u64 (mkW t n), .int .i64 (mkE t n)]) ∧ w' = w := by
  have H := May_any w t n h0 h255
  by_cases h1 : 1 ≤ t
  · by_cases h8 : t ≤ 8
    · have ht : okT t = true := by simp [okT, h1, h8]
      cases hn : okN t n
      · have hW : mkW t n = 0 := by simp [mkW, mkOk, ht, hn]
        have hE : mkE t n = 11 := by simp [mkE, ht, hn]
        have ho : mkOk t n = false := by simp [mkOk, hn]
        rw [hW, hE]
        rw [ho] at H
        clear hW hE hn ht ho
        go_enter Tryd.func75, Tryd.ntmps75
        go_wp2_with (go_at_call 83; refine H.mono ?_; rintro e w' ⟨rfl, rfl⟩)
        go_ret2
        exact ⟨rfl, rfl⟩
      · have ho : mkOk t n = true := by simp [mkOk, hn, ht]
        have hW : IntKind.u64.wrap (IntKind.u64.wrap (IntKind.u64.wrap n * 16) + t) = mkW t n := by
          have e : ∀ m, IntKind.u64.wrap m = m % 18446744073709551616 := fun m => by simp [IntKind.wrap, IntKind.bits, IntKind.signed]
          rw [e, e, e]; unfold mkW; rw [if_pos ho]; omega
        have hE : mkE t n = 0 := by simp [mkE, ht, hn]
        rw [← hW, hE]
        rw [ho] at H
        clear hW hE hn ht ho
        go_enter Tryd.func75, Tryd.ntmps75
        go_wp2_with (go_at_call 83; refine H.mono ?_; rintro e w' ⟨rfl, rfl⟩)
        go_ret2
        exact ⟨rfl, rfl⟩
    · have ht : okT t = false := by simp [okT]; omega
      have hW : mkW t n = 0 := by simp [mkW, mkOk, ht]
      have hE : mkE t n = 10 := by simp [mkE, ht]
      rw [hW, hE]
      clear hW hE ht H
      go_enter Tryd.func75, Tryd.ntmps75
      go_wp2_with fail
      go_ret2
      exact ⟨rfl, rfl⟩
  · have ht : okT t = false := by simp [okT]; omega
    have hW : mkW t n = 0 := by simp [mkW, mkOk, ht]
    have hE : mkE t n = 10 := by simp [mkE, ht]
    rw [hW, hE]
    clear hW hE ht H
    go_enter Tryd.func75, Tryd.ntmps75
    go_wp2_with fail
    go_ret2
    exact ⟨rfl, rfl⟩

theorem Of_any (w : World) (x : Int) (h0 : 0 ≤ x) (hx : x < 18446744073709551616) :
    Calls Tryd.prog 70 #[.int .u64 x] w fun e w' => e = .returned (.tuple #[.int .u8 (ofT x), .int .i64 (ofN x), .bool (ofOk x)]) ∧ w' = w := by
  by_cases hg : 576460752303423487 < x / 16
  · have hs : sN x = x / 16 - 1152921504606846976 := by unfold sN; rw [if_pos hg]
    have H := May_any w (x % 16) (x / 16 - 1152921504606846976) (by omega) (by omega)
    rw [← hs] at H
    cases ho : ofOk x
    · have hT : ofT x = 0 := by simp [ofT, ho]
      have hN : ofN x = 0 := by simp [ofN, ho]
      have hm : mkOk (x % 16) (sN x) = false := ho
      rw [hT, hN]; rw [hm] at H
      rw [hs] at H
      clear ho hT hN hm hs
      have m1 : 0 ≤ x % 16 := by omega
      have m2 : x % 16 ≤ 15 := by omega
      have d1 : x / 16 ≤ 1152921504606846975 := by omega
      go_enter Tryd.func70, Tryd.ntmps70
      go_wp2_with (go_at_call 83; refine H.mono ?_; rintro e w' ⟨rfl, rfl⟩)
      go_ret3
      exact ⟨rfl, rfl⟩
    · have hT : ofT x = x % 16 := by simp [ofT, ho]
      have hN : ofN x = sN x := by simp [ofN, ho]
      have hm : mkOk (x % 16) (sN x) = true := ho
      rw [hT, hN]; rw [hm] at H
      rw [hs] at H ⊢
      clear ho hT hN hm hs
      have m1 : 0 ≤ x % 16 := by omega
      have m2 : x % 16 ≤ 15 := by omega
      have d1 : x / 16 ≤ 1152921504606846975 := by omega
      go_enter Tryd.func70, Tryd.ntmps70
      go_wp2_with (go_at_call 83; refine H.mono ?_; rintro e w' ⟨rfl, rfl⟩)
      go_ret3
      exact ⟨rfl, rfl⟩
  · have hs : sN x = x / 16 := by unfold sN; rw [if_neg hg]
    have H := May_any w (x % 16) (x / 16) (by omega) (by omega)
    rw [← hs] at H
    cases ho : ofOk x
    · have hT : ofT x = 0 := by simp [ofT, ho]
      have hN : ofN x = 0 := by simp [ofN, ho]
      have hm : mkOk (x % 16) (sN x) = false := ho
      rw [hT, hN]; rw [hm] at H
      rw [hs] at H
      clear ho hT hN hm hs
      have m1 : 0 ≤ x % 16 := by omega
      have m2 : x % 16 ≤ 15 := by omega
      have d1 : x / 16 ≤ 1152921504606846975 := by omega
      go_enter Tryd.func70, Tryd.ntmps70
      go_wp2_with (go_at_call 83; refine H.mono ?_; rintro e w' ⟨rfl, rfl⟩)
      go_ret3
      exact ⟨rfl, rfl⟩
    · have hT : ofT x = x % 16 := by simp [ofT, ho]
      have hN : ofN x = sN x := by simp [ofN, ho]
      have hm : mkOk (x % 16) (sN x) = true := ho
      rw [hT, hN]; rw [hm] at H
      rw [hs] at H ⊢
      clear ho hT hN hm hs
      have m1 : 0 ≤ x % 16 := by omega
      have m2 : x % 16 ≤ 15 := by omega
      have d1 : x / 16 ≤ 1152921504606846975 := by omega
      go_enter Tryd.func70, Tryd.ntmps70
      go_wp2_with (go_at_call 83; refine H.mono ?_; rintro e w' ⟨rfl, rfl⟩)
      go_ret3
      exact ⟨rfl, rfl⟩
theorem Cell_any (w : World) (x : Int) (h0 : 0 ≤ x) (hx : x < 18446744073709551616) :
    Calls Tryd.prog 24 #[.int .u64 x] w fun e w' => e = .returned (.tuple #[.int .i64 (cellN x), .bool (isRef x)]) ∧ w' = w := by
  have H := Of_any w x h0 hx
  have hr := ofN_range x
  cases ho : ofOk x
  · have hT : ofT x = 0 := by simp [ofT, ho]
    have hi : isRef x = false := by simp [isRef, hT]
    have hc : cellN x = 0 := by simp [cellN, hi]
    rw [hc, hi]; rw [ho] at H
    clear hi hc hT ho
    generalize ofT x = a at *; generalize ofN x = b at *
    go_enter Tryd.func24, Tryd.ntmps24
    go_wp2_with (go_at_call 70; refine H.mono ?_; rintro e w' ⟨rfl, rfl⟩)
    go_ret2
    exact ⟨rfl, rfl⟩
  · rw [ho] at H
    cases hi : isRef x
    · have hc : cellN x = 0 := by simp [cellN, hi]
      have hi' : (ofT x != 8) = true := by simpa [isRef] using hi
      rw [hc]
      generalize ofT x = a at *; generalize ofN x = b at *
      clear hi hc
      go_enter Tryd.func24, Tryd.ntmps24
      go_wp2_with (go_at_call 70; refine H.mono ?_; rintro e w' ⟨rfl, rfl⟩)
      go_ret2
      exact ⟨rfl, rfl⟩
    · have hc : cellN x = ofN x := by simp [cellN, hi]
      have hi' : (ofT x != 8) = false := by simpa [isRef] using hi
      rw [hc]
      generalize ofT x = a at *; generalize ofN x = b at *
      clear hi hc
      go_enter Tryd.func24, Tryd.ntmps24
      go_wp2_with (go_at_call 70; refine H.mono ?_; rintro e w' ⟨rfl, rfl⟩)
      go_ret2
      exact ⟨rfl, rfl⟩
theorem Ref_any (w : World) (n : Int) (h0 : -9223372036854775808 ≤ n) (h1 : n ≤ 9223372036854775807) :
    Calls Tryd.prog 32 #[.int .i64 n] w fun e w' => e = .returned (.int .u64 (refW n)) ∧ w' = w := by
  have H := Make_any w 8 n (by omega) (by omega)
  unfold refW
  go_enter Tryd.func32, Tryd.ntmps32
  go_wp2_with (go_at_call 75; refine H.mono ?_; rintro e w' ⟨rfl, rfl⟩)
  go_ret
  exact ⟨rfl, rfl⟩
theorem Int_any (w : World) (n : Int) :
    Calls Tryd.prog 33 #[.int .i64 n] w fun e w' => e = .returned (.int .u64 (mkW 5 n)) ∧ w' = w := by
  have H := Make_any w 5 n (by omega) (by omega)
  go_enter Tryd.func33, Tryd.ntmps33
  go_wp2_with (go_at_call 75; refine H.mono ?_; rintro e w' ⟨rfl, rfl⟩)
  go_ret
  exact ⟨rfl, rfl⟩
end Go.Proofs.YtggijcebobjghaaDoor.Rd

set_option linter.unusedVariables false
set_option linter.unusedSimpArgs false
set_option maxRecDepth 100000
namespace Go.Proofs.YtggijcebobjghaaDoor.R10
open Go.RowKit Go.Proofs.YtggijcebobjghaaDoor.Wd Go.Proofs.YtggijcebobjghaaDoor.Hp Go.Proofs.YtggijcebobjghaaDoor.Gp Go.Proofs.YtggijcebobjghaaDoor.Sm Go.Proofs.YtggijcebobjghaaDoor.Gr
theorem word_any (w : World) (x : Int) (n : Nat) (hx : Gp.u64 x) :
    Calls Tryd.prog 61 #[.int .u64 x, .int .i64 n] w fun e w' => e = .returned (.bool (isWord x n)) ∧ w' = w := by
  have H1 := Rd.Of_any w x hx.1 hx.2
  have H2 := Rd.Cell_any w x hx.1 hx.2
  have hr := cellN_range x
  unfold isWord
  generalize ofOk x = o at *
  generalize isRef x = r at *
  generalize ofT x = t at *
  generalize ofN x = m at *
  generalize cellN x = c at *
  cases o <;> cases r
  all_goals
    go_enter Tryd.func61, Tryd.ntmps61
    go_wp2_with fail
    refine H1.mono ?_
    rintro e w' ⟨rfl, rfl⟩
    go_wp2_with fail
    refine H2.mono ?_
    rintro e w' ⟨rfl, rfl⟩
    go_wp2_with fail
    go_ret
    exact ⟨by simp, rfl⟩
set_option maxHeartbeats 1000000 in
theorem Check_any (w : World) (ao : Option Addr) (cap : Nat) (h : List Cel) (hn : h.length ≤ 1000000) (hr : RdF w ao (h.length * 4) (flat h) []) (hh : ∀ x ∈ h, InR x) :
    Calls Tryd.prog 37 #[.slice ao h.length cap] w (ChkPost h w) := by
  have HR := Lib.hid hr
  have HH := Lib.hid hh
  obtain ⟨n, hnl⟩ : ∃ n, n = h.length := ⟨_, rfl⟩
  rw [← hnl] at hn ⊢
  have HN := Lib.hid hnl
  clear hr hh hnl
  go_enter Tryd.func37, Tryd.ntmps37
  go_wp2_with fail
  go_loopw [4] (fun i wr => ∃ (k : Nat), k ≤ n ∧ i = .int .i64 k ∧ Ch [] w wr ∧ ∀ j, j < k → okCell h.length (h.getD j z) = true) (fun i _ => n - (intOf i).toNat)
  case atStart => exact ⟨0, by omega, rfl, Ch.refl _ _, fun j hj => absurd hj (by omega)⟩
  case round =>
    obtain ⟨k, hk, rfl, hc, hf⟩ := hrel
    have HC := Lib.hid hc
    have HF := Lib.hid hf
    clear hc hf
    by_cases hlt : k < n
    · have hkl : k < h.length := by rw [← HN.out]; exact hlt
      obtain ⟨b, off, rfl, hbn, hj⟩ := HR.out.2.resolve_left (by omega)
      have hA : ∀ t, t < 4 → wr.cell? ⟨b, off + (k * 4 + t), none⟩ = (celV (h.getD k z))[t]? := fun t ht => by
        have h3 := (hj (k * 4 + t) (by omega)).trans (flat_get h k t hkl ht)
        rw [List.getElem?_eq_getElem (by simp [celV]; omega)] at h3 ⊢
        exact HC.out.cell h3 (by simp)
      have a0 := hA 0 (by omega)
      have a1 := hA 1 (by omega)
      have a2 := hA 2 (by omega)
      have a3 := hA 3 (by omega)
      obtain ⟨i1, i2, i3, i4, i5, i6⟩ := InR.at HH.out k hkl
      have HO : Hid (okCell h.length (h.getD k z) = okCell n (h.getD k z)) := Lib.hid (by rw [HN.out])
      have HKL := Lib.hid hkl
      obtain ⟨x, hx⟩ : ∃ x, x = h.getD k z := ⟨_, rfl⟩
      rw [← hx] at a0 a1 a2 a3 i1 i2 i3 i4 i5 i6
      have HX := Lib.hid hx
      obtain ⟨ck, cc, ca, cb⟩ := x
      simp only [celV, List.getElem?_cons_zero, List.getElem?_cons_succ, Nat.add_zero, ← Nat.add_assoc] at a0 a1 a2 a3
      simp only at i1 i2 i3 i4 i5 i6
      have HCA := Lib.hid ((Ch.refl [] wr).alloc (.cells #[.int .u8 ck, .int .u8 cc, .int .u64 ca, .int .u64 cb] 55))
      have HCW := Lib.hid (HC.out.trans HCA.out (fun t ht => absurd ht (by simp)))
      have WA := word_any (wr.alloc (.cells #[.int .u8 ck, .int .u8 cc, .int .u64 ca, .int .u64 cb] 55)) ca n i5
      have WB := word_any (wr.alloc (.cells #[.int .u8 ck, .int .u8 cc, .int .u64 ca, .int .u64 cb] 55)) cb n i6
      have ltI : (k : Int) < n := by omega
      have HOK : Hid (okCell h.length (h.getD k z) = (!(decide (3 < ck)) && !(decide (2 < cc)) && (ck == 0 || (isWord ca n && isWord cb n)))) := Lib.hid (by rw [HO.out, ← HX.out]; rfl)
      clear hj hbn hA hkl hx HO HX HC HCA
      generalize isWord ca n = ia at *
      generalize isWord cb n = ib at *
      by_cases k3 : 3 < ck
      · go_wp2_with fail
        go_ret2
        exact ChkPost.bad k HKL.out HF.out (by rw [HOK.out]; simp [k3]) HCW.out
      · have k3' : ck ≤ 3 := by omega
        by_cases c2 : 2 < cc
        · go_wp2_with fail
          go_ret2
          exact ChkPost.bad k HKL.out HF.out (by rw [HOK.out]; simp [c2]) HCW.out
        · have c2' : cc ≤ 2 := by omega
          by_cases k0 : ck = 0
          · subst k0
            cases ia <;> cases ib
            all_goals
              go_wp2_with fail
              refine WA.mono ?_
              rintro e w2 ⟨rfl, rfl⟩
              go_wp2_with fail
              refine WB.mono ?_
              rintro e w2 ⟨rfl, rfl⟩
              go_wp2_with fail
              go_roundw
              case rel =>
                refine ⟨k + 1, by omega, by go_num, HCW.out, fun j hj => ?_⟩
                by_cases e : j = k
                · subst e; rw [HOK.out]; simp [c2]
                · exact HF.out j (by omega)
              case measure => simp [intOf]; omega
          · have k0' : (ck != 0) = true := by simpa using k0
            by_cases hab : ia = true ∧ ib = true
            · obtain ⟨rfl, rfl⟩ := hab
              go_wp2_with fail
              refine WA.mono ?_
              rintro e w2 ⟨rfl, rfl⟩
              go_wp2_with fail
              refine WB.mono ?_
              rintro e w2 ⟨rfl, rfl⟩
              go_wp2_with fail
              go_roundw
              case rel =>
                refine ⟨k + 1, by omega, by go_num, HCW.out, fun j hj => ?_⟩
                by_cases e : j = k
                · subst e; rw [HOK.out]; simp [k0, k3, c2]
                · exact HF.out j (by omega)
              case measure => simp [intOf]; omega
            · have hx : Hid ((ia && ib) = false) := Lib.hid (by revert hab; cases ia <;> cases ib <;> simp)
              clear hab
              cases ia <;> cases ib
              · go_wp2_with fail
                refine WA.mono ?_
                rintro e w2 ⟨rfl, rfl⟩
                go_wp2_with fail
                refine WB.mono ?_
                rintro e w2 ⟨rfl, rfl⟩
                go_wp2_with fail
                go_ret2
                exact ChkPost.bad k HKL.out HF.out (by rw [HOK.out]; simp [k0, k3, c2]) HCW.out
              · go_wp2_with fail
                refine WA.mono ?_
                rintro e w2 ⟨rfl, rfl⟩
                go_wp2_with fail
                refine WB.mono ?_
                rintro e w2 ⟨rfl, rfl⟩
                go_wp2_with fail
                go_ret2
                exact ChkPost.bad k HKL.out HF.out (by rw [HOK.out]; simp [k0, k3, c2]) HCW.out
              · go_wp2_with fail
                refine WA.mono ?_
                rintro e w2 ⟨rfl, rfl⟩
                go_wp2_with fail
                refine WB.mono ?_
                rintro e w2 ⟨rfl, rfl⟩
                go_wp2_with fail
                go_ret2
                exact ChkPost.bad k HKL.out HF.out (by rw [HOK.out]; simp [k0, k3, c2]) HCW.out
              · exact absurd hx.out (by simp)
    · obtain rfl : k = n := by omega
      have P : Hid (ChkPost h w (.returned (.tuple #[.int .i64 0, .int .i64 0])) wr) := Lib.hid (ChkPost.good (fun j hj => HF.out j (by rw [HN.out]; exact hj)) HC.out)
      go_wp2_with fail
      go_ret2
      exact P.out
set_option maxHeartbeats 1000000 in
theorem Right_any (w : World) (ao : Option Addr) (cap : Nat) (h : List Cel) (aw : Option Addr) (n cn : Nat) (ws : List Int) (hn : h.length ≤ 1000000) (hn2 : n ≤ 1000000) (hr : RdF w ao (h.length * 4) (flat h) []) (hrw : RdF w aw n (ints .u64 ws) []) (hh : ∀ x ∈ h, InR x) (hu : ∀ v ∈ ws, Gp.u64 v) :
    Calls Tryd.prog 17 #[.slice ao h.length cap, .slice aw n cn] w fun e w' => e = .returned (.bool (may h ws)) ∧ Ch [] w w' := by
  have CK := Check_any w ao cap h hn hr hh
  have HE := checkE_ok h
  have HOR := checkE_or h
  have hl : ws.length = n := by simpa [ints] using hrw.1
  have HM : Hid (may h ws = (h.all (okCell h.length) && ws.all (fun w => isWord w h.length))) := Lib.hid rfl
  have HL := Lib.hid hl
  have HRW := Lib.hid hrw
  have HU := Lib.hid hu
  unfold ChkPost at CK
  clear hr hrw hh hu hl
  have HEQ : Hid ((checkE h == 0) = h.all (okCell h.length)) := Lib.hid (by
    rw [Bool.eq_iff_iff, beq_iff_eq]; exact HE)
  clear HE HOR
  generalize checkE h = ce at *
  generalize checkI h = ci at *
  generalize h.all (okCell h.length) = bh at *
  generalize may h ws = mh at *
  generalize h.length = hl at *
  go_enter Tryd.func17, Tryd.ntmps17
  go_wp2_with fail
  refine CK.mono ?_
  rintro e w2 ⟨rfl, h2⟩
  have H2 := Lib.hid h2
  clear CK h2
  go_wp2_with fail
  go_loopw [7] (fun i wr => ∃ k : Nat, k ≤ n ∧ i = .int .i64 k ∧ (∀ j, j < k → isWord (ws.getD j 0) hl = true) ∧ wr = w2) (fun i _ => n - (intOf i).toNat)
  case atStart => exact ⟨0, by omega, rfl, (fun j hj => absurd hj (by omega)), by first | rfl | trivial⟩
  case round =>
    obtain ⟨k, hk, rfl, hag, rfl⟩ := hrel
    have HG := Lib.hid hag
    clear hag
    by_cases hlt : k < n
    · have hkl : k < ws.length := by rw [HL.out]; exact hlt
      obtain ⟨v, hv⟩ : ∃ v, v = ws.getD k 0 := ⟨_, rfl⟩
      have hvm : v ∈ ws := by rw [hv, show ws.getD k 0 = ws[k] by simp [List.getD, hkl]]; exact List.getElem_mem hkl
      obtain ⟨b, off, rfl, hbn, hj⟩ := HRW.out.2.resolve_left (by omega)
      have c1 := H2.out.cell ((hj k hlt).trans ((ints_get hkl).trans (by rw [← hv]))) (by simp)
      have CL := word_any wr v hl (HU.out v hvm)
      have ltI : (k : Int) < n := by omega
      have HV := Lib.hid hv
      have HVM := Lib.hid hvm
      clear hj hbn hv hvm hkl
      cases hiw : isWord v hl
      · rw [hiw] at CL
        have HIW := Lib.hid hiw
        clear hiw
        go_wp2_with fail
        refine CL.mono ?_
        rintro e w3 ⟨rfl, rfl⟩
        go_wp2_with fail
        go_ret
        refine ⟨?_, H2.out⟩
        have : ws.all (fun w => isWord w hl) = false := by
          rw [List.all_eq_false]
          exact ⟨v, HVM.out, by simp [HIW.out]⟩
        rw [HM.out, this]; simp
      · rw [hiw] at CL
        have HIW := Lib.hid hiw
        clear hiw
        go_wp2_with fail
        refine CL.mono ?_
        rintro e w3 ⟨rfl, rfl⟩
        go_wp2_with fail
        go_roundw
        case rel => exact ⟨k + 1, by omega, by go_num, (fun j hj => by
          rcases Nat.lt_or_ge j k with h | h
          · exact HG.out j h
          · obtain rfl : j = k := by omega
            rw [← HV.out]; exact HIW.out), by first | rfl | trivial⟩
        case measure => simp [intOf]; omega
    · obtain rfl : k = n := by omega
      have hall : ws.all (fun w => isWord w hl) = true := by
        rw [List.all_eq_true]
        intro x hx
        obtain ⟨j, hj, rfl⟩ := List.getElem_of_mem hx
        have := HG.out j (by rw [← HL.out]; exact hj)
        rwa [show ws.getD j 0 = ws[j] by simp [List.getD, hj]] at this
      have HALL := Lib.hid hall
      clear hall
      go_wp2_with fail
      go_ret
      exact ⟨by rw [HM.out, HALL.out, ← HEQ.out]; simp, H2.out⟩
theorem renamed_any (w : World) (x : Int) (ao : Option Addr) (n cap : Nat) (pl : List Nat) (hx : Gp.u64 x) (hr : RdF w ao n (nv pl) []) (hl : pl.length = n) (hsm : ∀ c, pl.getD c 0 ≤ 1000000) (hok : isRef x = true → (cellN x).toNat < n) :
    Calls Tryd.prog 77 #[.int .u64 x, .slice ao n cap] w fun e w' => e = .returned (.int .u64 (moved pl x)) ∧ w' = w := by
  have CC := Rd.Cell_any w x hx.1 hx.2
  have hrg := cellN_range x
  unfold moved
  cases href : isRef x
  · rw [href] at CC
    generalize cellN x = cv at *
    clear hr hl hsm hok hx href
    go_enter Tryd.func77, Tryd.ntmps77
    go_wp2_with fail
    refine CC.mono ?_
    rintro e w2 ⟨rfl, rfl⟩
    go_wp2_with fail
    go_ret
    exact ⟨by simp, rfl⟩
  · rw [href] at CC
    have hc := hok href
    obtain ⟨c, hcc⟩ : ∃ c : Nat, c = (cellN x).toNat := ⟨_, rfl⟩
    have e1 : cellN x = (c : Int) := by omega
    rw [← hcc] at hc ⊢
    rw [e1] at CC
    obtain ⟨b, off, rfl, hbn, hj⟩ := hr.2.resolve_left (by omega)
    have a1 := (hj c hc).trans (nv_at _ _ (by rw [hl]; exact hc))
    have hs := hsm c
    obtain ⟨p, hp⟩ : ∃ p, p = pl.getD c 0 := ⟨_, rfl⟩
    rw [← hp] at a1 hs ⊢
    have R := Rd.Ref_any w p (by omega) (by omega)
    have ltI : (c : Int) < n := by omega
    clear hr hj hbn hl hsm hok hx href hcc e1 hp hrg
    simp only [if_true]
    generalize refW (p : Int) = rp at *
    go_enter Tryd.func77, Tryd.ntmps77
    go_wp2_with fail
    refine CC.mono ?_
    rintro e w2 ⟨rfl, rfl⟩
    go_wp2_with fail
    refine R.mono ?_
    rintro e w2 ⟨rfl, rfl⟩
    go_wp2_with fail
    go_ret
    exact ⟨by simp, rfl⟩
end Go.Proofs.YtggijcebobjghaaDoor.R10
