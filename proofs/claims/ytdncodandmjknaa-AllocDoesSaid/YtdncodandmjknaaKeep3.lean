/-
  THE KEEPER's calls: backs.
-/
import Derived.Test.YtdncodandmjknaaKeep2
set_option linter.unusedVariables false
set_option linter.unusedSimpArgs false
set_option maxRecDepth 100000
namespace Go.Proofs.Ytdncodandmjknaa.Kp
open Go.RowKit Go.Proofs.Ytdncodandmjknaa.Hp Go.Proofs.Ytdncodandmjknaa.Sm Go.Proofs.Ytdncodandmjknaa.Ap Go.Proofs.Ytdncodandmjknaa.Al

def outTo (s : St) (c : Nat) : Nat → Bool
  | 0 => s.cs.getD c 0 != 0
  | m + 1 => outTo s c m && (s.gs.getD (m + 1) 0 - 1 != (c : Int))
theorem outTo_true {s : St} {c : Nat} : ∀ m, outTo s c m = true → s.cs.getD c 0 ≠ 0 ∧ ∀ u, 1 ≤ u → u ≤ m → s.gs.getD u 0 - 1 ≠ (c : Int)
  | 0, h => ⟨by simpa [outTo] using h, fun u h1 h2 => by omega⟩
  | m + 1, h => by
    simp only [outTo, Bool.and_eq_true, bne_iff_ne] at h
    obtain ⟨h1, h2⟩ := outTo_true m h.1
    exact ⟨h1, fun u k1 k2 => by
      by_cases e : u = m + 1
      · subst e; exact h.2
      · exact h2 u k1 (by omega)⟩
theorem outTo_mk {s : St} {c : Nat} : ∀ m, s.cs.getD c 0 ≠ 0 → (∀ u, 1 ≤ u → u ≤ m → s.gs.getD u 0 - 1 ≠ (c : Int)) → outTo s c m = true
  | 0, h, _ => by simpa [outTo] using h
  | m + 1, h, h2 => by
    simp only [outTo, Bool.and_eq_true, bne_iff_ne]
    exact ⟨outTo_mk m h (fun u k1 k2 => h2 u k1 (by omega)), h2 _ (by omega) (by omega)⟩
theorem outTo_eq {s : St} (inv : Inv s) (c : Nat) (hc : c < s.cs.length) : outTo s c 8 = (s.cs.getD c 0 == 1) := by
  rw [Bool.eq_iff_iff, beq_iff_eq]
  constructor
  · intro h
    obtain ⟨h1, h2⟩ := outTo_true 8 h
    rcases v3_at inv c hc with h3 | h3 | h3
    · exact absurd h3 h1
    · exact h3
    · obtain ⟨t, t1, t2, t3⟩ := inv.g2 c hc h3
      exact absurd (by rw [t3]; omega) (h2 t t1 (by omega))
  · intro h
    refine outTo_mk 8 (by rw [h]; omega) (fun u k1 k2 e => ?_)
    have := inv.g1 u (by omega) (by omega)
    rw [e, Int.toNat_natCast] at this
    omega

set_option maxHeartbeats 2000000 in
theorem backs_any {w0 w : World} {p c k kc : Nat} {s : St} (h : Jn w0 w p c k kc s) (inv : Inv s) (i : Nat) (hi : i < s.cs.length) : Calls Try.prog 14 #[.pointer (some ⟨k, 0, none⟩), .pointer (some ⟨p, 0, none⟩), .int .i64 i] w fun e w' => e = .returned (.bool true) ∧ Jn w0 w' p c k kc (Ap.back s i) := by
  have ln := inv.ok.len
  have ho8 := outTo_eq inv i hi
  have hbad : badC s i = !(s.cs.getD i 0 == 1) := by
    have e1 : decide ((i : Int) < 0) = false := by simp
    have e2 : decide ((s.cs.length : Int) ≤ i) = false := by simp; omega
    simp [badC, e1, e2, bne]; omega
  obtain ⟨qs0, ks0, a1, a2, a3, a4, a5, a6⟩ := id h
  obtain ⟨ao0, cap0, o1, o2, o3, o4, o5, o6, o7, o8, o9, o10⟩ := a2.open
  have c1 := o8 i hi
  have O7 := Lib.hid o7
  have HO8 := Lib.hid ho8
  have HB := Lib.hid hbad
  have HJ := Lib.hid h
  have INV := Lib.hid inv
  obtain ⟨L, hL⟩ : ∃ L, L = s.cs.length := ⟨_, rfl⟩
  rw [← hL] at o1 hi ln
  have HL := Lib.hid hL
  have hiI : (i : Int) < L := by omega
  have e0 : (s.cs.getD i 0 != 0) = outTo s i 0 := rfl
  rw [e0] at c1
  clear h inv a1 a2 a3 a4 a5 a6 o2 o3 o4 o5 o6 o7 o8 o9 o10 ho8 hbad hL e0
  go_enter Try.func14, Try.ntmps14
  go_wp2_with fail
  go_loop [7, 8] (fun o t => ∃ m : Nat, m ≤ 8 ∧ t = .int .i64 ((m : Int) + 1) ∧ o = .bool (outTo s i m)) (fun _ t => 10 - (intOf t).toNat)
  case atStart => exact ⟨0, by omega, rfl, rfl⟩
  case round =>
    obtain ⟨m, hm, rfl, rfl⟩ := hrel
    by_cases hlt : m < 8
    · have g1 := O7.out (m + 1) (by omega)
      have hs : outTo s i (m + 1) = (outTo s i m && (s.gs.getD (m + 1) 0 - 1 != (i : Int))) := rfl
      have HS := Lib.hid hs
      clear hs
      generalize s.gs.getD (m + 1) 0 - 1 = g at *
      have hm1 : ((m : Int) + 1).toNat = m + 1 := by omega
      cases hb : outTo s i m
      · rw [hb] at HS
        go_wp2_with fail
        go_round
        case rel => exact ⟨m + 1, by omega, by go_num, by rw [HS.out]; rfl⟩
        case measure => simp [intOf]; omega
      · rw [hb] at HS
        go_wp2_with fail
        go_round
        case rel => exact ⟨m + 1, by omega, by go_num, by rw [HS.out]; rfl⟩
        case measure => simp [intOf]; omega
    · obtain rfl : m = 8 := by omega
      rw [HO8.out]
      clear o1 c1
      by_cases hv : s.cs.getD i 0 = 1
      · have hv' : (s.cs.getD i 0 == 1) = true := by simpa using hv
        rw [hv']
        have HV := Lib.hid hv
        have hb := HB.out
        rw [hv'] at hb
        cases hq : s.q with
        | nil =>
          have A := Back_mid HJ.out i (n := 0) (er := 0) (by simp [backN, hb, hq]) (by simp [backErr, hb])
          have e : Ap.back s i = { s with cs := s.cs.set i 0 } := by simp [Ap.back, hb, hq]
          rw [e] at A
          have E := Lib.hid e
          have HQ := Lib.hid hq
          clear hv hv' hb hq e
          go_wp2_with fail
          refine A.mono ?_
          rintro e w1 ⟨rfl, qs, ks, i1, i2, i3, i4, i5, i6⟩
          obtain ⟨ao, cap, o1, o2, o3, o4, o5, o6, o7, o8, o9, o10⟩ := i2.open
          have c1 := o8 i (by rw [← HL.out]; exact hi)
          have f1 := o10 i
          rw [HQ.out] at o2
          rw [← HL.out] at o1
          simp only [List.length_nil] at o2
          generalize (s.cs.getD i 0 != 0) = old at *
          have I1 := Lib.hid i1
          have I2 := Lib.hid i2
          have I3 := Lib.hid i3
          have I4 := Lib.hid i4
          have I5 := Lib.hid i5
          have I6 := Lib.hid i6
          clear A i1 i2 i3 i4 i5 i6 o3 o4 o5 o6 o7 o8 o9 o10
          go_wp2_with fail
          go_ret
          exact ⟨rfl, by rw [E.out]; exact Mid.done I1.out I2.out I3.out I4.out I5.out I6.out ((Ch.refl [kc] w1).setCell ⟨kc, i, none⟩ _ (.inl (by simp))) (by simp) (I2.out.setC i 0 false (by decide)) (fun q hq => .inl hq)⟩
        | cons x q' =>
          obtain ⟨t, b⟩ := x
          have ht := INV.out.ok.qt (t, b) (by rw [hq]; simp)
          simp only at ht
          obtain ⟨t, rfl⟩ := Int.eq_ofNat_of_zero_le (show 0 ≤ t by omega)
          have A := Back_mid HJ.out i (n := t) (er := 0) (by simp [backN, hb, hq, Ap.first]) (by simp [backErr, hb])
          have e : Ap.back s i = { cs := s.cs.set i 2, gs := s.gs.set t (i + 1), q := q' } := by simp [Ap.back, hb, hq, Ap.first]
          rw [e] at A
          have E := Lib.hid e
          have HQ := Lib.hid hq
          have hq8 := INV.out.ok.ql
          have hgl := INV.out.ok.gl
          have HGL := Lib.hid hgl
          clear hv hv' hb hq e hgl
          go_wp2_with fail
          refine A.mono ?_
          rintro e w1 ⟨rfl, qs, ks, i1, i2, i3, i4, i5, i6⟩
          have I1 := Lib.hid i1
          have I2 := Lib.hid i2
          have I3 := Lib.hid i3
          have I4 := Lib.hid i4
          have I5 := Lib.hid i5
          have I6 := Lib.hid i6
          obtain ⟨qv, hd, hr⟩ := i2.hd
          have hqn := i2.qne
          obtain ⟨ao, cap, o1, o2, o3, o4, o5, o6, o7, o8, o9, o10⟩ := i2.open
          have fp := o9 10
          have f3 := o9 (1 + t)
          have g3 := o7 t (by omega)
          generalize s.gs.getD t 0 - 1 = old at *
          rw [HQ.out] at o2 o3 o4 o6 hq8
          obtain ⟨_, bq, off, ha, hcells⟩ := rd_wait o6
          obtain rfl := ha (by simp)
          obtain ⟨w1c, w2c⟩ := hcells 0 (by simp)
          simp only [List.getD_cons_zero, Nat.zero_mul, Nat.add_zero] at w1c w2c
          simp only [List.length_cons] at o2 o3 o4 hq8
          obtain ⟨m, hm⟩ : ∃ m, m = q'.length := ⟨_, rfl⟩
          rw [← hm] at o2 o3 o4 hq8
          have ew : wcells (((t : Int), b) :: q') = .int .i64 t :: .int .i64 b :: wcells q' := rfl
          rw [ew] at o3
          obtain ⟨t1, t2⟩ := Row.tail o3
          have HHD := Lib.hid hd
          have HT1 := Lib.hid t1
          have HT2 := Lib.hid t2
          have HQN := Lib.hid hqn
          have HM := Lib.hid hm
          unfold maxLen at o5
          clear hd hr t1 t2 hqn hm o1 o3 o6 o7 o8 o9 o10 ha hcells ew A i1 i2 i3 i4 i5 i6 w2c
          by_cases hc1 : cap = 1
          · subst hc1
            obtain rfl : m = 0 := by omega
            go_wp2_with fail
            go_ret
            have hm := HM.out
            have hr : Row w1 101 2 (.slice (some ⟨bq, off, none⟩) 0 0) ks q'.length (wcells q') := by rw [← hm]; exact HT1.out (by first | rfl | trivial)
            have K := ((Ks.mkQ HHD.out _ q' hr HQN.out).setG t (i + 1) i (by omega) (by omega) HGL.out).same i 2 (by omega) (by simp only; rw [HV.out]; omega)
            exact ⟨rfl, by rw [E.out]; exact Mid.done I1.out I2.out I3.out I4.out I5.out I6.out (((Ch.refl [k] w1).setCell ⟨k, 10, none⟩ _ (.inl (by simp))).setCell ⟨k, 1 + t, none⟩ _ (.inl (by simp))) (by simp) K (fun q hq => .inl hq)⟩
          · go_wp2_with fail
            go_ret
            have hm := HM.out
            have hr : Row w1 101 2 (.slice (some ⟨bq, off + 2, none⟩) m (cap - 1)) ks q'.length (wcells q') := by rw [← hm]; exact HT2.out hc1
            have K := ((Ks.mkQ HHD.out _ q' hr HQN.out).setG t (i + 1) i (by omega) (by omega) HGL.out).same i 2 (by omega) (by simp only; rw [HV.out]; omega)
            exact ⟨rfl, by rw [E.out]; exact Mid.done I1.out I2.out I3.out I4.out I5.out I6.out (((Ch.refl [k] w1).setCell ⟨k, 10, none⟩ _ (.inl (by simp))).setCell ⟨k, 1 + t, none⟩ _ (.inl (by simp))) (by simp) K (fun q hq => .inl hq)⟩
      · have hv' : (s.cs.getD i 0 == 1) = false := by simpa using hv
        rw [hv']
        have hb := HB.out
        rw [hv'] at hb
        have A := Back_mid HJ.out i (n := 0) (er := 120) (by simp [backN, hb]) (by simp [backErr, hb])
        have e : Ap.back s i = s := by simp [Ap.back, hb]
        rw [e] at A
        have E := Lib.hid e
        clear hv hv' hb e
        go_wp2_with fail
        refine A.mono ?_
        rintro e w1 ⟨rfl, qs, ks, i1, i2, i3, i4, i5, i6⟩
        have J : Jn w0 w1 p c k kc s := ⟨qs, ks, i1, i2, i3, i4, i5, i6⟩
        have HJ1 := Lib.hid J
        clear A J i1 i2 i3 i4 i5 i6
        go_wp2_with fail
        go_ret
        exact ⟨rfl, by rw [E.out]; exact HJ1.out⟩
end Go.Proofs.Ytdncodandmjknaa.Kp
