/-
  PLAIN LAWS (no program): sums, products and quotients of words among each other.
-/
import Derived.Test.YticlgmlhkkimkaaDoorWordsPure
set_option linter.unusedVariables false
namespace Go.Proofs.YticlgmlhkkimkaaDoor.Wd
open Go.RowKit

/-- x is the word of the number n. -/
def Iw (x n : Int) : Prop := ofT x = 5 ∧ ofN x = n ∧ 0 ≤ x ∧ x < 18446744073709551616 ∧ x = mkW 5 n
def inR (n : Int) : Prop := -576460752303423488 ≤ n ∧ n ≤ 576460752303423487

theorem mkOk5 (n : Int) : mkOk 5 n = true ↔ inR n := by simp [mkOk, okT, okN, lo, hi, inR]
theorem mkE5 (n : Int) (h : inR n) : mkE 5 n = 0 := by
  have := (mkOk5 n).2 h
  unfold mkOk at this
  simp only [Bool.and_eq_true] at this
  simp [mkE, this.1, this.2]
theorem mkE5_iff (n : Int) : mkE 5 n = 0 ↔ inR n := by
  constructor
  · intro h
    have t : okT 5 = true := by decide
    cases ho : okN 5 n
    · simp [mkE, t, ho] at h
    · exact (mkOk5 n).1 (by simp [mkOk, t, ho])
  · exact mkE5 n
theorem mkE5_or (n : Int) : mkE 5 n = 0 ∨ mkE 5 n = 11 := by
  have t : okT 5 = true := by decide
  cases ho : okN 5 n
  · right; simp [mkE, t, ho]
  · left; simp [mkE, t, ho]
theorem iw_mk (n : Int) (h : inR n) : Iw (mkW 5 n) n := by
  obtain ⟨h1, h2, h3⟩ := of_mk 5 n ((mkOk5 n).2 h)
  have r := mkW_range 5 n
  exact ⟨by simp [ofT, h1, h2], by simp [ofN, h1, h3], r.1, r.2, rfl⟩
theorem Iw.ints {x y n m : Int} (h : Iw x n) (k : Iw y m) : isInts x y = true := by simp [isInts, h.1, k.1]
theorem Iw.inR {x n : Int} (h : Iw x n) : inR n := by have := ofN_range x; rw [h.2.1] at this; exact this
theorem rec0 {x y n m : Int} (h : Iw x n) (k : Iw y m) : recW 0 x y = mkW 5 (n + m) ∧ recE 0 x y = mkE 5 (n + m) := by
  simp [recW, recE, h.ints k, h.2.1, k.2.1]
theorem rec1 {x y n m : Int} (h : Iw x n) (k : Iw y m) : recW 1 x y = mkW 5 (n - m) ∧ recE 1 x y = mkE 5 (n - m) := by
  simp [recW, recE, h.ints k, h.2.1, k.2.1]
theorem rec2 {x y n m : Int} (h : Iw x n) (k : Iw y m) : recW 2 x y = mkW 5 (n * m) ∧ recE 2 x y = mkE 5 (n * m) := by
  simp [recW, recE, h.ints k, h.2.1, k.2.1]
theorem rec3 {x y n m : Int} (h : Iw x n) (k : Iw y m) (hm : m ≠ 0) : recW 3 x y = mkW 5 (n.tdiv m) ∧ recE 3 x y = mkE 5 (n.tdiv m) := by
  simp [recW, recE, h.ints k, h.2.1, k.2.1, hm]
theorem rec4 {x y n m : Int} (h : Iw x n) (k : Iw y m) (hm : m ≠ 0) : recW 4 x y = mkW 5 (n.tmod m) ∧ recE 4 x y = mkE 5 (n.tmod m) := by
  simp [recW, recE, h.ints k, h.2.1, k.2.1, hm]
theorem rec34z {x y n : Int} (h : Iw x n) (k : Iw y 0) : recE 3 x y = 12 ∧ recE 4 x y = 12 := by
  simp [recE, h.ints k, k.2.1]
theorem recW_range (k x y : Int) : 0 ≤ recW k x y ∧ recW k x y < 18446744073709551616 := by
  unfold recW
  repeat' split
  all_goals first | exact mkW_range _ _ | omega
/-- a times (b and c). -/
theorem share {a b c n m k : Int} (ha : Iw a n) (hb : Iw b m) (hc : Iw c k) (h0 : recE 0 b c = 0) (h1 : recE 2 a (recW 0 b c) = 0) (h2 : recE 2 a b = 0) (h3 : recE 2 a c = 0) :
    recE 0 (recW 2 a b) (recW 2 a c) = 0 ∧ recW 2 a (recW 0 b c) = recW 0 (recW 2 a b) (recW 2 a c) := by
  rw [(rec0 hb hc).2] at h0
  rw [(rec0 hb hc).1] at h1 ⊢
  rw [(rec2 ha hb).2] at h2
  rw [(rec2 ha hc).2] at h3
  rw [(rec2 ha hb).1, (rec2 ha hc).1]
  have s := iw_mk _ ((mkE5_iff _).1 h0)
  have l := iw_mk _ ((mkE5_iff _).1 h2)
  have r := iw_mk _ ((mkE5_iff _).1 h3)
  rw [(rec2 ha s).2] at h1
  rw [(rec0 l r).2, (rec0 l r).1, (rec2 ha s).1, ← Int.mul_add]
  exact ⟨h1, rfl⟩
theorem tdiv_le (n m : Int) : (n.tdiv m).natAbs ≤ n.natAbs := by rw [Int.natAbs_tdiv]; exact Nat.div_le_self _ _
theorem tmod_inR (n m : Int) (hn : inR n) (hm : inR m) (h0 : m ≠ 0) : inR (n.tmod m) := by
  have h1 : (n.tmod m).natAbs ≤ n.natAbs := by rw [Int.natAbs_tmod]; exact Nat.mod_le _ _
  have h2 : (n.tmod m).natAbs < m.natAbs := by rw [Int.natAbs_tmod]; exact Nat.mod_lt _ (by omega)
  unfold inR at *; omega
theorem tdiv_out (n m : Int) (hn : inR n) (hm : inR m) (h0 : m ≠ 0) (h : ¬ inR (n.tdiv m)) : m = -1 ∧ n.tmod m = 0 := by
  have h1 := tdiv_le n m
  have h2 : n.natAbs = 576460752303423488 ∧ (n.tdiv m).natAbs = 576460752303423488 := by unfold inR at *; omega
  have hq : (n.tdiv m).natAbs = n.natAbs / m.natAbs := Int.natAbs_tdiv n m
  have hm1 : m.natAbs = 1 := by
    rcases Nat.lt_or_ge 1 m.natAbs with h3 | h3
    · have : n.natAbs / m.natAbs < n.natAbs := Nat.div_lt_self (by omega) h3
      omega
    · omega
  have hmm : m = 1 ∨ m = -1 := by omega
  rcases hmm with rfl | rfl
  · rw [Int.tdiv_one] at h; exact absurd hn h
  · exact ⟨rfl, by have := Int.mul_tdiv_add_tmod n (-1); have e : n.tdiv (-1) = -n := by rw [Int.tdiv_neg, Int.tdiv_one]
                   rw [e] at this; omega⟩
theorem tmod_sign (n m : Int) : n.tmod m = 0 ∨ (n.tmod m < 0 ↔ n < 0) := by
  rcases Int.lt_or_le n 0 with h | h
  · have e : n.tmod m = -((-n).tmod m) := by rw [Int.neg_tmod]; omega
    have : 0 ≤ (-n).tmod m := Int.tmod_nonneg _ (by omega)
    rcases Int.lt_or_le 0 ((-n).tmod m) with h3 | h3
    · right; omega
    · left; omega
  · have : 0 ≤ n.tmod m := Int.tmod_nonneg _ h
    right; omega
end Go.Proofs.YticlgmlhkkimkaaDoor.Wd
