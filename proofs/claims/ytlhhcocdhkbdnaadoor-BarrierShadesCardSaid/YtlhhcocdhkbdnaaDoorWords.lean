/-
  THE WALKS of package words: each function comes to WordsPure's number, and leaves the world as it is.
-/
import Derived.Test.YtlhhcocdhkbdnaaDoorProg
import Derived.Test.YtlhhcocdhkbdnaaDoorWordsPure
import Derived.WalkKit
import Derived.KernelRfl
set_option linter.unusedSimpArgs false
set_option linter.unusedVariables false
namespace Go.Proofs.YtlhhcocdhkbdnaaDoor.Wd
open Go.RowKit

/-- The table of bounds lies as the program's text lays it. -/
def Bnd (w : World) : Prop := ∀ t : Nat, t ≤ 8 → w.cell? ⟨0, t * 2, none⟩ = some (.int .i64 (lo t)) ∧ w.cell? ⟨0, t * 2 + 1, none⟩ = some (.int .i64 (hi t))

theorem Bnd.block {w : World} (h : Bnd w) : 0 < w.heap.size := by
  have h0 := (h 0 (by omega)).1
  rcases Nat.lt_or_ge 0 w.heap.size with hh | hh
  · exact hh
  · simp [World.cell?, Array.getElem?_eq_none hh] at h0
theorem Bnd.below {w w' : World} {B : Nat} (h : Bnd w) (hb : Below B w w') (hB : w.heap.size ≤ B) : Bnd w' := fun t ht =>
  ⟨(hb.cell (p := ⟨0, t * 2, none⟩) (Nat.lt_of_lt_of_le h.block hB)).trans (h t ht).1, (hb.cell (p := ⟨0, t * 2 + 1, none⟩) (Nat.lt_of_lt_of_le h.block hB)).trans (h t ht).2⟩
theorem Bnd.below' {w w' : World} {B : Nat} (h : Bnd w) (hb : Below B w w') (hB : 0 < B) : Bnd w' := fun t ht =>
  ⟨(hb.cell (p := ⟨0, t * 2, none⟩) hB).trans (h t ht).1, (hb.cell (p := ⟨0, t * 2 + 1, none⟩) hB).trans (h t ht).2⟩
theorem Bnd.alloc {w : World} (h : Bnd w) (o : Obj) : Bnd (w.alloc o) := h.below ((Below.refl _ _).alloc (Nat.le_refl _) o) (Nat.le_refl _)
theorem Bnd.drew {w : World} (h : Bnd w) : Bnd w.drew := h

theorem may_at (w : World) (t : Int) (n : Int) (h1 : 1 ≤ t) (h8 : t ≤ 8) (hb : Bnd w) :
    Calls Tryd.prog 107 #[.int .u8 t, .int .i64 n] w fun e w' => e = .returned (.bool (okN t n)) ∧ w' = w := by
  obtain ⟨t, rfl⟩ := Int.eq_ofNat_of_zero_le (show 0 ≤ t by omega)
  obtain ⟨l, g⟩ := hb t (by omega)
  clear hb
  unfold okN
  generalize lo t = a at *
  generalize hi t = b at *
  by_cases c : a ≤ n
  · have ca : decide (a ≤ n) = true := by simp [c]
    clear c
    go_enter Tryd.func107, Tryd.ntmps107
    go_wp2
    go_ret
    exact ⟨by simp [ca], rfl⟩
  · have ca : decide (a ≤ n) = false := by simp [c]
    clear c
    go_enter Tryd.func107, Tryd.ntmps107
    go_wp2
    go_ret
    exact ⟨by simp [ca], rfl⟩

theorem Of_any (w : World) (x : Int) (h0 : 0 ≤ x) (hx : x < 18446744073709551616) (hb : Bnd w) :
    Calls Tryd.prog 94 #[.int .u64 x] w fun e w' => e = .returned (.tuple #[.int .u8 (ofT x), .int .i64 (ofN x), .bool (ofOk x)]) ∧ w' = w := by
  have e1 := and15b x h0 hx
  have e2 := shr4 x h0 hx
  by_cases h1 : 1 ≤ x % 16
  · by_cases h8 : x % 16 ≤ 8
    · have H := (may_at w (x % 16) (sN x) h1 h8 hb)
      have ht : okT (x % 16) = true := by simp [okT, h1, h8]
      rw [← e1, ← e2] at H
      rw [← e1] at h1 h8
      cases hn : okN (x % 16) (sN x)
      · have ho : ofOk x = false := by simp [ofOk, mkOk, hn]
        have hT : ofT x = 0 := by simp [ofT, ho]
        have hN : ofN x = 0 := by simp [ofN, ho]
        rw [ho, hT, hN]
        rw [e1, e2, hn, ← e1, ← e2] at H
        clear e1 e2 ho hT hN hn ht hb
        go_enter Tryd.func94, Tryd.ntmps94
        go_wp2_with (go_at_call 107; refine H.mono ?_; rintro e w' ⟨rfl, rfl⟩)
        go_ret3
        exact ⟨rfl, rfl⟩
      · have ho : ofOk x = true := by simp [ofOk, mkOk, hn, ht]
        have hT : ofT x = bits .and .u64 x 15 % 256 := by rw [e1]; simp [ofT, ho]
        have hN : ofN x = wrap64 x / 16 := by rw [e2]; simp [ofN, ho]
        rw [ho, hT, hN]
        rw [e1, e2, hn, ← e1, ← e2] at H
        clear e1 e2 ho hT hN hn ht hb
        go_enter Tryd.func94, Tryd.ntmps94
        go_wp2_with (go_at_call 107; refine H.mono ?_; rintro e w' ⟨rfl, rfl⟩)
        go_ret3
        exact ⟨rfl, rfl⟩
    · have ht : okT (x % 16) = false := by simp [okT]; omega
      have ho : ofOk x = false := by simp [ofOk, mkOk, ht]
      have hT : ofT x = 0 := by simp [ofT, ho]
      have hN : ofN x = 0 := by simp [ofN, ho]
      rw [ho, hT, hN]
      rw [← e1] at h1 h8
      clear e1 e2 ho hT hN ht hb
      go_enter Tryd.func94, Tryd.ntmps94
      go_wp2_with fail
      go_ret3
      exact ⟨rfl, rfl⟩
  · have ht : okT (x % 16) = false := by simp [okT]; omega
    have ho : ofOk x = false := by simp [ofOk, mkOk, ht]
    have hT : ofT x = 0 := by simp [ofT, ho]
    have hN : ofN x = 0 := by simp [ofN, ho]
    rw [ho, hT, hN]
    rw [← e1] at h1
    clear e1 e2 ho hT hN ht hb
    go_enter Tryd.func94, Tryd.ntmps94
    go_wp2_with fail
    go_ret3
    exact ⟨rfl, rfl⟩
theorem Cell_any (w : World) (x : Int) (h0 : 0 ≤ x) (hx : x < 18446744073709551616) (hb : Bnd w) :
    Calls Tryd.prog 73 #[.int .u64 x] w fun e w' => e = .returned (.tuple #[.int .i64 (cellN x), .bool (isRef x)]) ∧ w' = w := by
  have H := Of_any w x h0 hx hb
  have hr := ofN_range x
  cases hi : isRef x
  · have hc : cellN x = 0 := by simp [cellN, hi]
    have hi' : (ofT x != 8) = true := by simpa [isRef] using hi
    rw [hc]
    generalize ofT x = a at *; generalize ofN x = b at *; generalize ofOk x = c at *
    clear hb hi hc
    go_enter Tryd.func73, Tryd.ntmps73
    go_wp2_with (go_at_call 94; refine H.mono ?_; rintro e w' ⟨rfl, rfl⟩)
    go_ret2
    exact ⟨rfl, rfl⟩
  · have hc : cellN x = ofN x := by simp [cellN, hi]
    have hi' : (ofT x != 8) = false := by simpa [isRef] using hi
    rw [hc]
    generalize ofT x = a at *; generalize ofN x = b at *; generalize ofOk x = c at *
    clear hb hi hc
    go_enter Tryd.func73, Tryd.ntmps73
    go_wp2_with (go_at_call 94; refine H.mono ?_; rintro e w' ⟨rfl, rfl⟩)
    go_ret2
    exact ⟨rfl, rfl⟩
end Go.Proofs.YtlhhcocdhkbdnaaDoor.Wd
