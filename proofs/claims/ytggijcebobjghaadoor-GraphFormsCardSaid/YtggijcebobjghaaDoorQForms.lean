/-
  THE WALK of dapplelaw10.pick and moved.
-/
import Derived.Test.YtggijcebobjghaaDoorQFormsP2
import Derived.Test.YtggijcebobjghaaDoorQJRef10
import Derived.BigQuiet
import Derived.Deep.RegionWith
set_option linter.unusedVariables false
set_option linter.unusedSimpArgs false
set_option maxRecDepth 100000
namespace Go.Proofs.YtggijcebobjghaaDoor.L10
open Go.RowKit Go.Proofs.YtggijcebobjghaaDoor.Wd Go.Proofs.YtggijcebobjghaaDoor.Hp Go.Proofs.YtggijcebobjghaaDoor.Gp Go.Proofs.YtggijcebobjghaaDoor.Sm Go.Proofs.YtggijcebobjghaaDoor.Gr Go.Proofs.YtggijcebobjghaaDoor.Pa Go.Proofs.YtggijcebobjghaaDoor.Fo
theorem pick_any (w : World) (c : Int) (n : Nat) (h0 : -9223372036854775808 ≤ c) (h1 : c ≤ 9223372036854775807) (hn : 0 < n) (hm : n ≤ 1000000) :
    Calls Tryd.prog 29 #[.int .i64 c, .int .i64 n] w fun e w' => e = .returned (.int .i64 (pickN c n : Nat)) ∧ w' = w := by
  have hp := (pick_cast c n hn).1
  have hne : ((n : Int) == 0) = false := by simp; omega
  have hz : ¬ (n : Int) = 0 := by omega
  have HE : ∀ x : Int, 0 ≤ x → x.tmod n = x % n := fun x hx => Int.tmod_eq_emod_of_nonneg hx
  rw [hp]
  clear hp
  unfold pickI
  by_cases hc : c < 0
  · rw [if_pos hc]
    have a1 : wrap64 (c + 1) = c + 1 := by unfold wrap64; omega
    have a2 : wrap64 (-(c + 1)) = -(c + 1) := by unfold wrap64; omega
    have a3 := HE (-(c + 1)) (by omega)
    have a4 := Int.emod_nonneg (-(c + 1)) hz
    have a5 := Int.emod_lt_of_pos (-(c + 1)) (show (0 : Int) < n by omega)
    obtain ⟨d, hd⟩ : ∃ d, d = -(c + 1) := ⟨_, rfl⟩
    rw [← hd] at a2 a3 a4 a5 ⊢
    have a6 : wrap64 (d % (n : Int)) = d % n := by unfold wrap64; omega
    have HD := Lib.hid hd
    clear h0 h1 hn HE hd
    go_enter Tryd.func29, Tryd.ntmps29
    go_wp2_with fail
    go_ret
    refine ⟨?_, rfl⟩
    simp only [← HD.out, a2, a3]
    rfl
  · rw [if_neg hc]
    have a3 := HE c (by omega)
    have a4 := Int.emod_nonneg c hz
    have a5 := Int.emod_lt_of_pos c (show (0 : Int) < n by omega)
    have a6 : wrap64 (c % (n : Int)) = c % n := by unfold wrap64; omega
    clear h0 h1 hn HE
    go_enter Tryd.func29, Tryd.ntmps29
    go_wp2_with fail
    go_ret
    refine ⟨?_, rfl⟩
    simp only [a3]
    rfl
theorem moved_any (w : World) (x : Int) (tb n : Nat) (to : List Nat) (hx : Gp.u64 x) (hl : to.length = n) (hn : n ≤ 1000000) (hlt : ∀ i, to.getD i 0 ≤ 1000000) (ht : w.heap[tb]? = some (.cells (nv to).toArray 3 (0, 0))) :
    Calls Tryd.prog 30 #[.int .u64 x, .slice (some ⟨tb, 0, none⟩) n n] w fun e w' => e = .returned (.int .u64 (mvT to x)) ∧ w' = w := by
  have CC := Rd.Cell_any w x hx.1 hx.2
  have hrg := cellN_range x
  have HE : Hid (mvT to x = if (isRef x && decide (cellN x < (n : Int))) = true then refW (to.getD (cellN x).toNat 0 : Nat) else x) := Lib.hid (by unfold mvT; rw [hl])
  clear hx
  cases hr : isRef x
  · rw [hr] at CC HE
    simp only [Bool.false_and, Bool.false_eq_true, if_false] at HE
    clear hr hl hn hlt ht hrg
    generalize cellN x = y at *
    go_enter Tryd.func30, Tryd.ntmps30
    go_wp2_with fail
    refine CC.mono ?_
    rintro e w2 ⟨rfl, rfl⟩
    go_wp2_with fail
    go_ret
    exact ⟨by rw [HE.out]; rfl, rfl⟩
  · rw [hr] at CC HE
    obtain ⟨c, hc⟩ : ∃ c : Nat, c = (cellN x).toNat := ⟨_, rfl⟩
    have hcv : cellN x = (c : Int) := by omega
    rw [← hc] at HE
    rw [hcv] at CC HE
    simp only [Bool.true_and, decide_eq_true_eq] at HE
    by_cases hlt2 : c < n
    · have ltC : (c : Int) < n := by omega
      rw [if_pos ltC] at HE
      have a1 := cell_at (i := c) ht
      rw [List.getElem?_toArray, nv_at _ _ (by omega)] at a1
      have h3 := hlt c
      have R := Rd.Ref_any w (to.getD c 0 : Nat) (by omega) (by omega)
      clear hr hl hlt ht hrg hcv hc
      generalize to.getD c 0 = y at *
      generalize refW (y : Int) = ry at *
      go_enter Tryd.func30, Tryd.ntmps30
      go_wp2_with fail
      refine CC.mono ?_
      rintro e w2 ⟨rfl, rfl⟩
      go_wp2_with fail
      refine R.mono ?_
      rintro e w2 ⟨rfl, rfl⟩
      go_wp2_with fail
      go_ret
      exact ⟨by rw [HE.out]; rfl, rfl⟩
    · have ltC : ¬ (c : Int) < n := by omega
      rw [if_neg ltC] at HE
      clear hr hl hlt ht hrg hcv hc
      go_enter Tryd.func30, Tryd.ntmps30
      go_wp2_with fail
      refine CC.mono ?_
      rintro e w2 ⟨rfl, rfl⟩
      go_wp2_with fail
      go_ret
      exact ⟨by rw [HE.out]; rfl, rfl⟩
end Go.Proofs.YtggijcebobjghaaDoor.L10
