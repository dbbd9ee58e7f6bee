/-
  THE WALKS of package words: each function comes to WordsPure's number, and leaves the world as it is.
-/
import Derived.Test.YtefamhdkfdgdjaaDoorProg
import Derived.Test.YtefamhdkfdgdjaaDoorWordsPure
import Derived.WalkKit
import Derived.KernelRfl
set_option linter.unusedSimpArgs false
set_option linter.unusedVariables false
namespace Go.Proofs.YtefamhdkfdgdjaaDoor.Wd
open Go.RowKit

/-- The table of bounds lies as the program's text lays it. -/
def Bnd (w : World) : Prop := ∀ t : Nat, t ≤ 8 → w.cell? ⟨0, t * 2, none⟩ = some (.int .i64 (lo t)) ∧ w.cell? ⟨0, t * 2 + 1, none⟩ = some (.int .i64 (hi t))

theorem Bnd.block {w : World} (h : Bnd w) : 0 < w.heap.size := by
  have h0 := (h 0 (by omega)).1
  rcases Nat.lt_or_ge 0 w.heap.size with hh | hh
  · exact hh
  · simp [World.cell?, Array.getElem?_eq_none hh] at h0
theorem Bnd.below {w w' : World} {B : Nat} (h : Bnd w) (hb : Below B w w') (hB : w.heap.size ≤ B) : Bnd w' := fun t ht =>
  ⟨(hb.cell (p := ⟨0, t * 2, none⟩) (Nat.lt_of_lt_of_le h.block hB)).trans (h t ht).1, (hb.cell (p := ⟨0, t * 2 + 1, none⟩) (Nat.lt_of_lt_of_le h.block hB)).trans (h t ht).2⟩
theorem Bnd.below' {w w' : World} {B : Nat} (h : Bnd w) (hb : Below B w w') (hB : 0 < B) : Bnd w' := fun t ht =>
  ⟨(hb.cell (p := ⟨0, t * 2, none⟩) hB).trans (h t ht).1, (hb.cell (p := ⟨0, t * 2 + 1, none⟩) hB).trans (h t ht).2⟩
theorem Bnd.alloc {w : World} (h : Bnd w) (o : Obj) : Bnd (w.alloc o) := h.below ((Below.refl _ _).alloc (Nat.le_refl _) o) (Nat.le_refl _)
theorem Bnd.drew {w : World} (h : Bnd w) : Bnd w.drew := h

theorem may_at (w : World) (t : Int) (n : Int) (h1 : 1 ≤ t) (h8 : t ≤ 8) (hb : Bnd w) :
    Calls Tryd.prog 67 #[.int .u8 t, .int .i64 n] w fun e w' => e = .returned (.bool (okN t n)) ∧ w' = w := by
  obtain ⟨t, rfl⟩ := Int.eq_ofNat_of_zero_le (show 0 ≤ t by omega)
  obtain ⟨l, g⟩ := hb t (by omega)
  clear hb
  unfold okN
  generalize lo t = a at *
  generalize hi t = b at *
  by_cases c : a ≤ n
  · have ca : decide (a ≤ n) = true := by simp [c]
    clear c
    go_enter Tryd.func67, Tryd.ntmps67
    go_wp2
    go_ret
    exact ⟨by simp [ca], rfl⟩
  · have ca : decide (a ≤ n) = false := by simp [c]
    clear c
    go_enter Tryd.func67, Tryd.ntmps67
    go_wp2
    go_ret
    exact ⟨by simp [ca], rfl⟩

theorem Make_any (w : World) (t n : Int) (hb : Bnd w) :
    Calls Tryd.prog 18 #[.int .u8 t, .int .i64 n] w fun e w' => e = .returned (.tuple #[.int .u64 (mkW t n), .int .i64 (mkE t n)]) ∧ w' = w := by
  by_cases h1 : 1 ≤ t
  · by_cases h8 : t ≤ 8
    · have ht : okT t = true := by simp [okT, h1, h8]
      cases hn : okN t n
      · have hW : mkW t n = 0 := by simp [mkW, mkOk, ht, hn]
        have hE : mkE t n = 11 := by simp [mkE, ht, hn]
        rw [hW, hE]
        have H := (may_at w t n h1 h8 hb)
        rw [hn] at H
        clear hW hE hn ht hb
        go_enter Tryd.func18, Tryd.ntmps18
        go_wp2_with (go_at_call 67; refine H.mono ?_; rintro e w' ⟨rfl, rfl⟩)
        go_ret2
        exact ⟨rfl, rfl⟩
      · have hW : mkW t n = bits .or .u64 (IntKind.u64.wrap (IntKind.u64.wrap n * 16)) t := by rw [shl4 n t (by omega) (by omega)]; simp [mkW, mkOk, ht, hn]
        have hE : mkE t n = 0 := by simp [mkE, ht, hn]
        rw [hW, hE]
        have H := (may_at w t n h1 h8 hb)
        rw [hn] at H
        clear hW hE hn ht hb
        go_enter Tryd.func18, Tryd.ntmps18
        go_wp2_with (go_at_call 67; refine H.mono ?_; rintro e w' ⟨rfl, rfl⟩)
        go_ret2
        exact ⟨rfl, rfl⟩
    · have ht : okT t = false := by simp [okT]; omega
      have hW : mkW t n = 0 := by simp [mkW, mkOk, ht]
      have hE : mkE t n = 10 := by simp [mkE, ht]
      rw [hW, hE]
      clear hW hE ht hb
      go_enter Tryd.func18, Tryd.ntmps18
      go_wp2_with fail
      go_ret2
      exact ⟨rfl, rfl⟩
  · have ht : okT t = false := by simp [okT]; omega
    have hW : mkW t n = 0 := by simp [mkW, mkOk, ht]
    have hE : mkE t n = 10 := by simp [mkE, ht]
    rw [hW, hE]
    clear hW hE ht hb
    go_enter Tryd.func18, Tryd.ntmps18
    go_wp2_with fail
    go_ret2
    exact ⟨rfl, rfl⟩

theorem Of_any (w : World) (x : Int) (h0 : 0 ≤ x) (hx : x < 18446744073709551616) (hb : Bnd w) :
    Calls Tryd.prog 62 #[.int .u64 x] w fun e w' => e = .returned (.tuple #[.int .u8 (ofT x), .int .i64 (ofN x), .bool (ofOk x)]) ∧ w' = w := by
  have e1 := and15b x h0 hx
  have e2 := shr4 x h0 hx
  by_cases h1 : 1 ≤ x % 16
  · by_cases h8 : x % 16 ≤ 8
    · have H := (may_at w (x % 16) (sN x) h1 h8 hb)
      have ht : okT (x % 16) = true := by simp [okT, h1, h8]
      rw [← e1, ← e2] at H
      rw [← e1] at h1 h8
      cases hn : okN (x % 16) (sN x)
      · have ho : ofOk x = false := by simp [ofOk, mkOk, hn]
        have hT : ofT x = 0 := by simp [ofT, ho]
        have hN : ofN x = 0 := by simp [ofN, ho]
        rw [ho, hT, hN]
        rw [e1, e2, hn, ← e1, ← e2] at H
        clear e1 e2 ho hT hN hn ht hb
        go_enter Tryd.func62, Tryd.ntmps62
        go_wp2_with (go_at_call 67; refine H.mono ?_; rintro e w' ⟨rfl, rfl⟩)
        go_ret3
        exact ⟨rfl, rfl⟩
      · have ho : ofOk x = true := by simp [ofOk, mkOk, hn, ht]
        have hT : ofT x = bits .and .u64 x 15 % 256 := by rw [e1]; simp [ofT, ho]
        have hN : ofN x = wrap64 x / 16 := by rw [e2]; simp [ofN, ho]
        rw [ho, hT, hN]
        rw [e1, e2, hn, ← e1, ← e2] at H
        clear e1 e2 ho hT hN hn ht hb
        go_enter Tryd.func62, Tryd.ntmps62
        go_wp2_with (go_at_call 67; refine H.mono ?_; rintro e w' ⟨rfl, rfl⟩)
        go_ret3
        exact ⟨rfl, rfl⟩
    · have ht : okT (x % 16) = false := by simp [okT]; omega
      have ho : ofOk x = false := by simp [ofOk, mkOk, ht]
      have hT : ofT x = 0 := by simp [ofT, ho]
      have hN : ofN x = 0 := by simp [ofN, ho]
      rw [ho, hT, hN]
      rw [← e1] at h1 h8
      clear e1 e2 ho hT hN ht hb
      go_enter Tryd.func62, Tryd.ntmps62
      go_wp2_with fail
      go_ret3
      exact ⟨rfl, rfl⟩
  · have ht : okT (x % 16) = false := by simp [okT]; omega
    have ho : ofOk x = false := by simp [ofOk, mkOk, ht]
    have hT : ofT x = 0 := by simp [ofT, ho]
    have hN : ofN x = 0 := by simp [ofN, ho]
    rw [ho, hT, hN]
    rw [← e1] at h1
    clear e1 e2 ho hT hN ht hb
    go_enter Tryd.func62, Tryd.ntmps62
    go_wp2_with fail
    go_ret3
    exact ⟨rfl, rfl⟩
theorem Int_any (w : World) (n : Int) (hb : Bnd w) :
    Calls Tryd.prog 17 #[.int .i64 n] w fun e w' => e = .returned (.tuple #[.int .u64 (mkW 5 n), .int .i64 (mkE 5 n)]) ∧ w' = w := by
  have H := Make_any w 5 n hb
  clear hb
  go_enter Tryd.func17, Tryd.ntmps17
  go_wp2_with (go_at_call 18; refine H.mono ?_; rintro e w' ⟨rfl, rfl⟩)
  go_ret2
  exact ⟨rfl, rfl⟩
theorem Ref_any (w : World) (n : Int) (h0 : -9223372036854775808 ≤ n) (h1 : n ≤ 9223372036854775807) (hb : Bnd w) :
    Calls Tryd.prog 20 #[.int .i64 n] w fun e w' => e = .returned (.int .u64 (refW n)) ∧ w' = w := by
  have H := Make_any w 8 n hb
  clear hb
  unfold refW
  go_enter Tryd.func20, Tryd.ntmps20
  go_wp2_with (go_at_call 18; refine H.mono ?_; rintro e w' ⟨rfl, rfl⟩)
  go_ret
  exact ⟨rfl, rfl⟩
theorem Cell_any (w : World) (x : Int) (h0 : 0 ≤ x) (hx : x < 18446744073709551616) (hb : Bnd w) :
    Calls Tryd.prog 63 #[.int .u64 x] w fun e w' => e = .returned (.tuple #[.int .i64 (cellN x), .bool (isRef x)]) ∧ w' = w := by
  have H := Of_any w x h0 hx hb
  have hr := ofN_range x
  cases hi : isRef x
  · have hc : cellN x = 0 := by simp [cellN, hi]
    have hi' : (ofT x != 8) = true := by simpa [isRef] using hi
    rw [hc]
    generalize ofT x = a at *; generalize ofN x = b at *; generalize ofOk x = c at *
    clear hb hi hc
    go_enter Tryd.func63, Tryd.ntmps63
    go_wp2_with (go_at_call 62; refine H.mono ?_; rintro e w' ⟨rfl, rfl⟩)
    go_ret2
    exact ⟨rfl, rfl⟩
  · have hc : cellN x = ofN x := by simp [cellN, hi]
    have hi' : (ofT x != 8) = false := by simpa [isRef] using hi
    rw [hc]
    generalize ofT x = a at *; generalize ofN x = b at *; generalize ofOk x = c at *
    clear hb hi hc
    go_enter Tryd.func63, Tryd.ntmps63
    go_wp2_with (go_at_call 62; refine H.mono ?_; rintro e w' ⟨rfl, rfl⟩)
    go_ret2
    exact ⟨rfl, rfl⟩
end Go.Proofs.YtefamhdkfdgdjaaDoor.Wd
