/-
  THE WALKS of package alloc, on: Back.
-/
import Derived.Test.YtdncodandmjknaaAlloc2
set_option linter.unusedVariables false
set_option linter.unusedSimpArgs false
set_option maxRecDepth 100000
namespace Go.Proofs.Ytdncodandmjknaa.Al
open Go.RowKit Go.Proofs.Ytdncodandmjknaa.Hp Go.Proofs.Ytdncodandmjknaa.Sm Go.Proofs.Ytdncodandmjknaa.Ap

theorem Back_bad (w : World) (p c : Nat) (qs : List Nat) (s : St) (k : Int) (h : Is w p c qs s) (hk : badC s k = true) :
    Calls Try.prog 20 #[.pointer (some ⟨p, 0, none⟩), .int .i64 k] w fun e w' => e = .returned (.tuple #[.int .i64 0, .int .i64 120]) ∧ w' = w := by
  have ln := h.ok.len
  obtain ⟨ao, cap, o1, o2, o3, o4, o5, o6, o7, o8, o9, o10⟩ := h.open
  by_cases h1 : k < 0
  · clear h o1 o2 o3 o4 o5 o6 o7 o8 o9 o10 hk
    go_enter Try.func20, Try.ntmps20
    go_wp2_with fail
    go_ret2
    exact ⟨rfl, rfl⟩
  · obtain ⟨k, rfl⟩ := Int.eq_ofNat_of_zero_le (show 0 ≤ k by omega)
    obtain ⟨L, hL⟩ : ∃ L, L = s.cs.length := ⟨_, rfl⟩
    by_cases h2 : L ≤ k
    · rw [← hL] at o1 ln
      clear h o2 o3 o4 o5 o6 o7 o8 o9 o10 hk hL
      go_enter Try.func20, Try.ntmps20
      go_wp2_with fail
      go_ret2
      exact ⟨rfl, rfl⟩
    · have c2 := o8 k (by omega)
      have hne : (s.cs.getD k 0 != 1) = true := by
        unfold badC at hk
        simp only [Bool.or_eq_true, decide_eq_true_eq] at hk
        rcases hk with (hk | hk) | hk
        · omega
        · omega
        · simpa using hk
      rw [← hL] at o1 ln
      generalize s.cs.getD k 0 = v at *
      clear h o2 o3 o4 o5 o6 o7 o8 o9 o10 hk hL
      go_enter Try.func20, Try.ntmps20
      go_wp2_with fail
      go_ret2
      exact ⟨rfl, rfl⟩

theorem badC_not {s : St} {k : Int} (hk : badC s k = false) : ∃ n : Nat, k = n ∧ n < s.cs.length ∧ s.cs.getD n 0 = 1 := by
  unfold badC at hk
  simp only [Bool.or_eq_false_iff, decide_eq_false_iff_not, bne_eq_false_iff_eq] at hk
  obtain ⟨⟨h1, h2⟩, h3⟩ := hk
  obtain ⟨n, rfl⟩ := Int.eq_ofNat_of_zero_le (show 0 ≤ k by omega)
  exact ⟨n, rfl, by omega, by simpa using h3⟩

theorem Back_free (w : World) (p c : Nat) (qs : List Nat) (s : St) (k : Nat) (h : Is w p c qs s) (hk : k < s.cs.length) (hv : s.cs.getD k 0 = 1) (hq : s.q = []) :
    Calls Try.prog 20 #[.pointer (some ⟨p, 0, none⟩), .int .i64 k] w fun e w' => e = .returned (.tuple #[.int .i64 0, .int .i64 0]) ∧ Is w' p c qs { s with cs := s.cs.set k 0 } ∧ Ch [c] w w' := by
  have ln := h.ok.len
  have hne := h.ne
  obtain ⟨ao, cap, o1, o2, o3, o4, o5, o6, o7, o8, o9, o10⟩ := h.open
  have c2 := o8 k hk
  rw [hv] at c2
  have f2 := o10 k
  obtain ⟨L, hL⟩ : ∃ L, L = s.cs.length := ⟨_, rfl⟩
  rw [← hL] at o1 ln hk
  rw [hq] at o2
  have HI := Lib.hid h
  clear h o3 o4 o5 o6 o7 o8 o9 o10 hL hv hq
  simp only [List.length_nil] at o2
  go_enter Try.func20, Try.ntmps20
  go_wp2_with fail
  go_ret2
  exact ⟨rfl, HI.out.setC k 0, (Ch.refl _ _).setCell ⟨c, k, none⟩ _ (.inl (by simp))⟩

theorem Row.tail {w : World} {e : TypeId} {q off : Nat} {qs : List Nat} {n cap : Nat} {a b : Value} {xs : List Value} (h : Row w e 2 (.slice (some ⟨q, off, none⟩) (n + 1) cap) qs (n + 1) (a :: b :: xs)) :
    (cap = 1 → Row w e 2 (.slice (some ⟨q, off, none⟩) n 0) qs n xs) ∧ (cap ≠ 1 → Row w e 2 (.slice (some ⟨q, off + 2, none⟩) n (cap - 1)) qs n xs) := by
  obtain ⟨hl, ao, cap', hv, h1, h2, h3, h4⟩ := h
  simp only [Value.slice.injEq, true_and] at hv
  obtain ⟨rfl, rfl⟩ := hv
  simp only [List.length_cons] at hl
  constructor
  · intro hc
    subst hc
    obtain rfl : n = 0 := by omega
    obtain rfl : xs = [] := List.eq_nil_of_length_eq_zero (by omega)
    exact ⟨by simp, _, 0, rfl, Nat.le_refl _, by simp [maxLen], (by intro h; cases h), .inl rfl⟩
  · intro hc
    refine ⟨by omega, _, cap - 1, rfl, by omega, by omega, (by intro h; cases h), .inr ?_⟩
    obtain ⟨q', off', arr, hq, ha, hh, hfit, hj⟩ := h4.resolve_left (by omega)
    simp only [Option.some.injEq, Addr.mk.injEq, and_true] at ha
    obtain ⟨rfl, rfl⟩ := ha
    refine ⟨q, off + 2, arr, hq, rfl, hh, by omega, fun j hj2 => ?_⟩
    have := hj (j + 2) (by omega)
    rw [show off + 2 + j = off + (j + 2) by omega, this]
    rfl

set_option maxHeartbeats 400000 in
theorem Back_give (w : World) (p c : Nat) (qs : List Nat) (s : St) (k : Nat) (t : Nat) (b : Int) (q' : List (Int × Int)) (h : Is w p c qs s) (hk : k < s.cs.length) (hv : s.cs.getD k 0 = 1) (hq : s.q = ((t : Int), b) :: q') :
    Calls Try.prog 20 #[.pointer (some ⟨p, 0, none⟩), .int .i64 k] w fun e w' => e = .returned (.tuple #[.int .i64 t, .int .i64 0]) ∧ Is w' p c qs { cs := s.cs.set k 2, gs := s.gs.set t (k + 1), q := q' } ∧ Ch [p, c] w w' := by
  have ln := h.ok.len
  have hne := h.ne
  have hq8 := h.ok.ql
  have htt := h.ok.qt ((t : Int), b) (by rw [hq]; simp)
  simp only at htt
  have ok1 : Ok { s with q := q' } := h.ok.sub (by rw [hq]; exact List.sublist_cons_self _ _)
  obtain ⟨qv, hd, hr⟩ := h.hd
  have hqn := h.qne
  obtain ⟨ao, cap, o1, o2, o3, o4, o5, o6, o7, o8, o9, o10⟩ := h.open
  have c2 := o8 k hk
  rw [hv] at c2
  have f2 := o10 k
  have fp := o9 10
  have f3 := o9 (1 + t)
  have g3 := o7 t (by omega)
  generalize s.gs.getD t 0 = old at *
  obtain ⟨L, hL⟩ : ∃ L, L = s.cs.length := ⟨_, rfl⟩
  rw [← hL] at o1 ln hk
  rw [hq] at o2 o3 o4 o6 hq8
  obtain ⟨_, bq, off, ha, hcells⟩ := rd_wait o6
  obtain rfl := ha (by simp)
  obtain ⟨w1, w2⟩ := hcells 0 (by simp)
  simp only [List.getD_cons_zero, Nat.zero_mul, Nat.add_zero] at w1 w2
  simp only [List.length_cons] at o2 o3 o4 hq8
  obtain ⟨m, hm⟩ : ∃ m, m = q'.length := ⟨_, rfl⟩
  rw [← hm] at o2 o3 o4 hq8
  have ew : wcells (((t : Int), b) :: q') = .int .i64 t :: .int .i64 b :: wcells q' := rfl
  rw [ew] at o3
  obtain ⟨t1, t2⟩ := Row.tail o3
  have eqv : qv = .slice (some ⟨bq, off, none⟩) (m + 1) cap := by
    obtain ⟨⟨arr, h1, _, _, _, h5⟩, _, _⟩ := hd
    have := o2
    rw [cell_at h1, h5] at this
    exact Option.some.inj this
  have HHD := Lib.hid hd
  have HT1 := Lib.hid t1
  have HT2 := Lib.hid t2
  have HOK := Lib.hid ok1
  have HQN := Lib.hid hqn
  have HL := Lib.hid hL
  have HM := Lib.hid hm
  have HOK0 := Lib.hid h.ok
  unfold maxLen at o5
  clear h hd hr t1 t2 ok1 hqn hL hm hv hq o3 o6 o7 o8 o9 o10 ha hcells ew eqv
  by_cases hc1 : cap = 1
  · subst hc1
    obtain rfl : m = 0 := by omega
    go_enter Try.func20, Try.ntmps20
    go_wp2_with fail
    go_ret2
    have hm := HM.out
    have hL := HL.out
    have hr : Row w 101 2 (.slice (some ⟨bq, off, none⟩) 0 0) qs q'.length (wcells q') := by rw [← hm]; exact HT1.out (by first | rfl | trivial)
    have I := ((Is.mkQ HHD.out _ q' hr HQN.out HOK.out).setC k 2).setG t (k + 1) (by omega) ⟨by omega, by simp; omega⟩
    exact ⟨rfl, I, (((Ch.refl _ _).setCell ⟨p, 10, none⟩ _ (.inl (by simp))).setCell ⟨c, k, none⟩ _ (.inl (by simp))).setCell ⟨p, 1 + t, none⟩ _ (.inl (by simp))⟩
  · go_enter Try.func20, Try.ntmps20
    go_wp2_with fail
    go_ret2
    have hm := HM.out
    have hL := HL.out
    have hr : Row w 101 2 (.slice (some ⟨bq, off + 2, none⟩) m (cap - 1)) qs q'.length (wcells q') := by rw [← hm]; exact HT2.out hc1
    have I := ((Is.mkQ HHD.out _ q' hr HQN.out HOK.out).setC k 2).setG t (k + 1) (by omega) ⟨by omega, by simp; omega⟩
    exact ⟨rfl, I, (((Ch.refl _ _).setCell ⟨p, 10, none⟩ _ (.inl (by simp))).setCell ⟨c, k, none⟩ _ (.inl (by simp))).setCell ⟨p, 1 + t, none⟩ _ (.inl (by simp))⟩
/-- BACK, of whatever cell. -/
theorem Back_any (w : World) (p c : Nat) (qs : List Nat) (s : St) (k : Int) (h : Is w p c qs s) :
    Calls Try.prog 20 #[.pointer (some ⟨p, 0, none⟩), .int .i64 k] w fun e w' => e = .returned (.tuple #[.int .i64 (backN s k), .int .i64 (backErr s k)]) ∧ Is w' p c qs (Ap.back s k) ∧ Ch [p, c] w w' := by
  cases hk : badC s k
  · obtain ⟨n, rfl, h1, h2⟩ := badC_not hk
    cases hq : s.q with
    | nil =>
      have e2 : backN s n = 0 ∧ backErr s n = 0 ∧ Ap.back s n = { s with cs := s.cs.set n 0 } := by simp [backN, backErr, Ap.back, hk, hq]
      rw [e2.1, e2.2.1, e2.2.2]
      exact (Back_free w p c qs s n h h1 h2 hq).mono fun e w' ⟨a, b, c⟩ => ⟨a, b, c.mono (by simp)⟩
    | cons x q' =>
      obtain ⟨t, b⟩ := x
      have ht := h.ok.qt (t, b) (by rw [hq]; simp)
      simp only at ht
      obtain ⟨t, rfl⟩ := Int.eq_ofNat_of_zero_le (show 0 ≤ t by omega)
      have e2 : backN s n = t ∧ backErr s n = 0 ∧ Ap.back s n = { cs := s.cs.set n 2, gs := s.gs.set t (n + 1), q := q' } := by simp [backN, backErr, Ap.back, Ap.first, hk, hq]
      rw [e2.1, e2.2.1, e2.2.2]
      exact Back_give w p c qs s n t b q' h h1 h2 hq
  · have e2 : backN s k = 0 ∧ backErr s k = 120 ∧ Ap.back s k = s := by simp [backN, backErr, Ap.back, hk]
    rw [e2.1, e2.2.1, e2.2.2]
    exact (Back_bad w p c qs s k h hk).mono fun e w' ⟨a, b⟩ => ⟨a, b ▸ h, b ▸ Ch.refl _ _⟩
end Go.Proofs.Ytdncodandmjknaa.Al
