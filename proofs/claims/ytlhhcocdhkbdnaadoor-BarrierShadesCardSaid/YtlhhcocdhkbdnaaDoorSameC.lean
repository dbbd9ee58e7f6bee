/-
  THE WALK of dappleref00.SameCells, for any two lists.
-/
import Derived.Test.YtlhhcocdhkbdnaaDoorSameWB
import Derived.Test.YtlhhcocdhkbdnaaDoorGraphPure
set_option linter.unusedVariables false
set_option linter.unusedSimpArgs false
namespace Go.Proofs.YtlhhcocdhkbdnaaDoor.Sm
open Go.RowKit Go.Proofs.YtlhhcocdhkbdnaaDoor.Hp Go.Proofs.YtlhhcocdhkbdnaaDoor.Gp

theorem cel_ext (l : List Cel) (j : Nat) (h : j < l.length) : l[j]? = some (l.getD j z) := by simp [List.getD, h]
set_option maxHeartbeats 1000000 in
theorem SameCells_any (w : World) (ao bo : Option Addr) (n cn m cm : Nat) (xs ys : List Cel) (hn : n ≤ 1000000) (hm : m ≤ 1000000) (hxl : xs.length = n) (hyl : ys.length = m) (hx : Rd w ao (n * 4) (flat xs)) (hy : Rd w bo (m * 4) (flat ys)) :
    Calls Tryd.prog 42 #[.slice ao n cn, .slice bo m cm] w fun e w' => e = .returned (.bool (decide (xs = ys))) ∧ ∃ d, w' = w.drewN d := by
  by_cases hnm : n = m
  · subst hnm
    have HRX := Lib.hid hx
    have HRY := Lib.hid hy
    have HX := Lib.hid hxl
    have HY := Lib.hid hyl
    clear hx hy hxl hyl
    go_enter Tryd.func42, Tryd.ntmps42
    go_wp2_with fail
    go_loopw [5] (fun i wr => ∃ k d : Nat, k ≤ n ∧ i = .int .i64 k ∧ wr = w.drewN d ∧ (∀ j, j < k → xs[j]? = ys[j]?)) (fun i _ => n - (intOf i).toNat)
    case atStart => exact ⟨0, 0, by omega, rfl, rfl, fun j hj => absurd hj (by omega)⟩
    case round =>
      obtain ⟨k, d, hk, rfl, rfl, hag⟩ := hrel
      have HG := Lib.hid hag
      clear hag
      by_cases hlt : k < n
      · obtain ⟨b, off, rfl, hj⟩ := HRX.out.2.resolve_left (by omega)
        obtain ⟨b', off', rfl, hj'⟩ := HRY.out.2.resolve_left (by omega)
        have hA : ∀ t, t < 4 → (w.drewN d).cell? ⟨b, off + (k * 4 + t), none⟩ = (celV (xs.getD k z))[t]? := fun t ht => (hj _ (by omega)).trans (flat_get xs k t (by rw [HX.out]; exact hlt) ht)
        have hB : ∀ t, t < 4 → (w.drewN d).cell? ⟨b', off' + (k * 4 + t), none⟩ = (celV (ys.getD k z))[t]? := fun t ht => (hj' _ (by omega)).trans (flat_get ys k t (by rw [HY.out]; exact hlt) ht)
        have a0 := hA 0 (by omega)
        have a1 := hA 1 (by omega)
        have a2 := hA 2 (by omega)
        have a3 := hA 3 (by omega)
        have b0 := hB 0 (by omega)
        have b1 := hB 1 (by omega)
        have b2 := hB 2 (by omega)
        have b3 := hB 3 (by omega)
        have HU := Lib.hid (cel_ext xs k (by rw [HX.out]; exact hlt))
        have HV := Lib.hid (cel_ext ys k (by rw [HY.out]; exact hlt))
        clear hA hB hj hj'
        have hltI : (k : Int) < n := by omega
        obtain ⟨wd, hwd⟩ : ∃ wd, wd = w.drewN d := ⟨_, rfl⟩
        rw [← hwd] at a0 a1 a2 a3 b0 b1 b2 b3 ⊢
        have HW := Lib.hid hwd
        clear hwd
        generalize xs.getD k z = x at *
        generalize ys.getD k z = y at *
        have HXY : Hid (x = y → ∀ j, j < k + 1 → xs[j]? = ys[j]?) := Lib.hid (fun e j hj => by
          rcases Nat.lt_or_ge j k with h | h
          · exact HG.out j h
          · obtain rfl : j = k := by omega
            rw [HU.out, HV.out, e])
        have HNE : Hid (x ≠ y → decide (xs = ys) = false) := Lib.hid (fun e => by
          have : xs ≠ ys := fun e2 => by subst e2; have := HU.out.symm.trans HV.out; simp at this; exact e this
          simp [this])
        clear HU HV
        by_cases hxy : x = y
        · subst hxy
          have P := Lib.hid (HXY.out rfl)
          clear HXY HNE
          obtain ⟨xk, xc, xa, xb⟩ := x
          simp only [celV, List.getElem?_cons_zero, List.getElem?_cons_succ, Nat.add_zero, ← Nat.add_assoc] at a0 a1 a2 a3 b0 b1 b2 b3
          go_wp2_with fail
          go_quiet (fail)
          go_wp2_with fail
          go_roundw
          case rel => exact ⟨k + 1, _, by omega, by go_num, by rw [HW.out, World.drewN_drewN], P.out⟩
          case measure => simp [intOf]; omega
        · have P := Lib.hid (HNE.out hxy)
          clear HXY HNE
          obtain ⟨xk, xc, xa, xb⟩ := x
          obtain ⟨yk, yc, ya, yb⟩ := y
          simp only [celV, List.getElem?_cons_zero, List.getElem?_cons_succ, Nat.add_zero, ← Nat.add_assoc] at a0 a1 a2 a3 b0 b1 b2 b3
          simp only [Cel.mk.injEq] at hxy
          have hcase : (xk ≠ yk) ∨ (xk = yk ∧ xc ≠ yc) ∨ (xk = yk ∧ xc = yc ∧ xa ≠ ya) ∨ (xk = yk ∧ xc = yc ∧ xa = ya ∧ xb ≠ yb) := by omega
          clear hxy
          rcases hcase with h | ⟨rfl, h⟩ | ⟨rfl, rfl, h⟩ | ⟨rfl, rfl, rfl, h⟩
          all_goals
            go_wp2_with fail
            go_quiet (fail)
            go_wp2_with fail
            go_ret
            exact ⟨by have := P.out; first | (rw [this]; done) | (simp at this ⊢; exact this), _, by rw [HW.out, World.drewN_drewN]⟩
      · obtain rfl : k = n := by omega
        have heq : xs = ys := eq_of_agree (HX.out.trans HY.out.symm) (fun j hj => HG.out j (by have := HX.out; omega))
        have hd : decide (xs = ys) = true := by simp [heq]
        have P := Lib.hid hd
        clear heq hd
        go_wp2_with fail
        go_ret
        exact ⟨by have := P.out; first | (rw [this]; done) | (simp at this ⊢; exact this), _, rfl⟩
  · have hne : xs ≠ ys := by
      intro e; subst e; omega
    have hd : decide (xs = ys) = false := by simp [hne]
    rw [hd]
    have hb : ((n : Int) != (m : Int)) = true := by rw [bne_iff_ne]; omega
    clear hx hy hne hd hnm hxl hyl
    go_enter Tryd.func42, Tryd.ntmps42
    go_wp2_with fail
    go_ret
    exact ⟨rfl, 0, rfl⟩
end Go.Proofs.YtlhhcocdhkbdnaaDoor.Sm
