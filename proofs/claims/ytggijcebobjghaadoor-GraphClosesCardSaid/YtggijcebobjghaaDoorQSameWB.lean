/-
  THE WALKS of dappleref00's SameWords, SameBools. (Written by wip/gen_samewb.py out of XSame.)
-/
import Derived.Test.YtggijcebobjghaaDoorQJApp
set_option linter.unusedVariables false
set_option linter.unusedSimpArgs false
namespace Go.Proofs.YtggijcebobjghaaDoor.Sm
open Go.RowKit Go.Proofs.YtggijcebobjghaaDoor.Hp
def bools (l : List Bool) : List Value := l.map Value.bool
theorem bools_get {xs : List Bool} {j : Nat} (h : j < xs.length) : (bools xs)[j]? = some (.bool (xs.getD j true)) := by simp [bools, h]
theorem rd_bools {w : World} {ao : Option Addr} {xs : List Bool} {n : Nat} (h : Rd w ao n (bools xs)) : xs.length = n ∧ (n = 0 ∨ ∃ b off, ao = some ⟨b, off, none⟩ ∧ ∀ j, j < n → w.cell? ⟨b, off + j, none⟩ = some (.bool (xs.getD j true))) := by
  obtain ⟨h1, h2⟩ := h
  have hl : xs.length = n := by simpa [bools] using h1
  exact ⟨hl, h2.imp id fun ⟨b, off, ha, hc⟩ => ⟨b, off, ha, fun j hj => (hc j hj).trans (bools_get (by omega))⟩⟩
set_option maxHeartbeats 1000000 in
theorem SameWords_any (w : World) (ao bo : Option Addr) (n cn m cm : Nat) (xs ys : List Int) (hn : n ≤ cn) (hcn : cn ≤ maxLen) (hm : m ≤ cm) (hcm : cm ≤ maxLen) (hx : Rd w ao n (ints .u64 xs)) (hy : Rd w bo m (ints .u64 ys)) :
    Calls Tryd.prog 28 #[.slice ao n cn, .slice bo m cm] w fun e w' => e = .returned (.bool (decide (xs = ys))) ∧ ∃ d, w' = w.drewN d := by
  obtain ⟨hxl, hx⟩ := rd_ints hx
  obtain ⟨hyl, hy⟩ := rd_ints hy
  unfold maxLen at hcn hcm
  by_cases hnm : n = m
  · subst hnm
    have hcell : ∃ b off b' off', (0 < n → ao = some ⟨b, off, none⟩ ∧ bo = some ⟨b', off', none⟩) ∧ ∀ j, j < n → w.cell? ⟨b, off + j, none⟩ = some (.int .u64 (xs.getD j 0)) ∧ w.cell? ⟨b', off' + j, none⟩ = some (.int .u64 (ys.getD j 0)) := by
      rcases hx with rfl | ⟨b, off, ha, hx⟩
      · exact ⟨0, 0, 0, 0, fun h => absurd h (by omega), fun j hj => absurd hj (by omega)⟩
      · rcases hy with rfl | ⟨b', off', hb, hy⟩
        · exact ⟨0, 0, 0, 0, fun h => absurd h (by omega), fun j hj => absurd hj (by omega)⟩
        · exact ⟨b, off, b', off', fun _ => ⟨ha, hb⟩, fun j hj => ⟨hx j hj, hy j hj⟩⟩
    clear hx hy
    obtain ⟨b, off, b', off', hao, hcell⟩ := hcell
    have HA := Lib.hid hao
    have HC := Lib.hid hcell
    have HX := Lib.hid hxl
    have HY := Lib.hid hyl
    clear hao hcell hxl hyl
    go_enter Tryd.func28, Tryd.ntmps28
    go_wp2_with fail
    go_loopw [5] (fun i wr => ∃ k d : Nat, k ≤ n ∧ i = .int .i64 k ∧ wr = w.drewN d ∧ (∀ j, j < k → xs[j]? = ys[j]?)) (fun i _ => n - (intOf i).toNat)
    case atStart => exact ⟨0, 0, by omega, rfl, rfl, fun j hj => absurd hj (by omega)⟩
    case round =>
      obtain ⟨k, d, hk, rfl, rfl, hag⟩ := hrel
      have HG := Lib.hid hag
      clear hag
      by_cases hlt : k < n
      · obtain ⟨rfl, rfl⟩ := HA.out (by omega)
        obtain ⟨c1, c2⟩ := HC.out k hlt
        generalize hu : xs.getD k 0 = u at *
        generalize hv : ys.getD k 0 = v at *
        have HU := Lib.hid hu
        have HV := Lib.hid hv
        clear hu hv
        by_cases huv : u = v
        · have huv' : (u != v) = false := by simpa using huv
          have HUV := Lib.hid huv
          clear huv
          go_wp2_with fail
          go_quiet (fail)
          go_wp2_with fail
          go_roundw
          case rel => exact ⟨k + 1, _, by omega, by go_num, rfl, fun j hj => by
            rcases Nat.lt_or_ge j k with h | h
            · exact HG.out j h
            · obtain rfl : j = k := by omega
              have a1 := HX.out; have a2 := HY.out; have e1 := HU.out; have e2 := HV.out; have e3 := HUV.out
              rw [List.getElem?_eq_getElem (by omega), List.getElem?_eq_getElem (by omega)]
              simp [List.getD, show j < xs.length by omega, show j < ys.length by omega] at e1 e2
              rw [e1, e2, e3]⟩
          case measure => simp [intOf]; omega
        · have huv' : (u != v) = true := by simpa using huv
          have HUV := Lib.hid huv
          clear huv
          go_wp2_with fail
          go_quiet (fail)
          go_wp2_with fail
          go_ret
          refine ⟨?_, _, World.drewN_drewN _ _ _⟩
          have hne : xs ≠ ys := by
            intro e
            apply HUV.out
            rw [← HU.out, ← HV.out, e]
          simp [hne]
      · obtain rfl : k = n := by omega
        go_wp2_with fail
        go_ret
        refine ⟨?_, _, rfl⟩
        have heq : xs = ys := eq_of_agree (HX.out.trans HY.out.symm) (fun j hj => HG.out j (by have := HX.out; omega))
        simp [heq]
  · have hne : xs ≠ ys := by
      intro e; subst e; omega
    have hd : decide (xs = ys) = false := by simp [hne]
    rw [hd]
    have hb : ((n : Int) != (m : Int)) = true := by rw [bne_iff_ne]; omega
    clear hx hy hne hd hnm
    go_enter Tryd.func28, Tryd.ntmps28
    go_wp2_with fail
    go_ret
    exact ⟨rfl, 0, rfl⟩
set_option maxHeartbeats 1000000 in
theorem SameBools_any (w : World) (ao bo : Option Addr) (n cn m cm : Nat) (xs ys : List Bool) (hn : n ≤ cn) (hcn : cn ≤ maxLen) (hm : m ≤ cm) (hcm : cm ≤ maxLen) (hx : Rd w ao n (bools xs)) (hy : Rd w bo m (bools ys)) :
    Calls Tryd.prog 36 #[.slice ao n cn, .slice bo m cm] w fun e w' => e = .returned (.bool (decide (xs = ys))) ∧ ∃ d, w' = w.drewN d := by
  obtain ⟨hxl, hx⟩ := rd_bools hx
  obtain ⟨hyl, hy⟩ := rd_bools hy
  unfold maxLen at hcn hcm
  by_cases hnm : n = m
  · subst hnm
    have hcell : ∃ b off b' off', (0 < n → ao = some ⟨b, off, none⟩ ∧ bo = some ⟨b', off', none⟩) ∧ ∀ j, j < n → w.cell? ⟨b, off + j, none⟩ = some (.bool (xs.getD j true)) ∧ w.cell? ⟨b', off' + j, none⟩ = some (.bool (ys.getD j true)) := by
      rcases hx with rfl | ⟨b, off, ha, hx⟩
      · exact ⟨0, 0, 0, 0, fun h => absurd h (by omega), fun j hj => absurd hj (by omega)⟩
      · rcases hy with rfl | ⟨b', off', hb, hy⟩
        · exact ⟨0, 0, 0, 0, fun h => absurd h (by omega), fun j hj => absurd hj (by omega)⟩
        · exact ⟨b, off, b', off', fun _ => ⟨ha, hb⟩, fun j hj => ⟨hx j hj, hy j hj⟩⟩
    clear hx hy
    obtain ⟨b, off, b', off', hao, hcell⟩ := hcell
    have HA := Lib.hid hao
    have HC := Lib.hid hcell
    have HX := Lib.hid hxl
    have HY := Lib.hid hyl
    clear hao hcell hxl hyl
    go_enter Tryd.func36, Tryd.ntmps36
    go_wp2_with fail
    go_loopw [5] (fun i wr => ∃ k d : Nat, k ≤ n ∧ i = .int .i64 k ∧ wr = w.drewN d ∧ (∀ j, j < k → xs[j]? = ys[j]?)) (fun i _ => n - (intOf i).toNat)
    case atStart => exact ⟨0, 0, by omega, rfl, rfl, fun j hj => absurd hj (by omega)⟩
    case round =>
      obtain ⟨k, d, hk, rfl, rfl, hag⟩ := hrel
      have HG := Lib.hid hag
      clear hag
      by_cases hlt : k < n
      · obtain ⟨rfl, rfl⟩ := HA.out (by omega)
        obtain ⟨c1, c2⟩ := HC.out k hlt
        generalize hu : xs.getD k true = u at *
        generalize hv : ys.getD k true = v at *
        have HU := Lib.hid hu
        have HV := Lib.hid hv
        clear hu hv
        by_cases huv : u = v
        · subst huv
          have HX2 := HX
          cases u
          all_goals
            go_wp2_with fail
            go_quiet (fail)
            go_wp2_with fail
            go_roundw
            case rel => exact ⟨k + 1, _, by omega, by go_num, rfl, fun j hj => by
              rcases Nat.lt_or_ge j k with h | h
              · exact HG.out j h
              · obtain rfl : j = k := by omega
                have a1 := HX.out; have a2 := HY.out; have e1 := HU.out; have e2 := HV.out
                rw [List.getElem?_eq_getElem (by omega), List.getElem?_eq_getElem (by omega)]
                simp [List.getD, show j < xs.length by omega, show j < ys.length by omega] at e1 e2
                rw [e1, e2]⟩
            case measure => simp [intOf]; omega
        · have hne : xs ≠ ys := by
            intro e
            apply huv
            rw [← HU.out, ← HV.out, e]
          have hd : decide (xs = ys) = false := by simp [hne]
          have HD := Lib.hid hd
          clear hne hd
          cases u <;> cases v
          · exact absurd rfl huv
          · clear huv
            go_wp2_with fail
            go_quiet (fail)
            go_wp2_with fail
            go_ret
            exact ⟨by have := HD.out; first | (rw [this]; done) | (simp at this ⊢; exact this), _, World.drewN_drewN _ _ _⟩
          · clear huv
            go_wp2_with fail
            go_quiet (fail)
            go_wp2_with fail
            go_ret
            exact ⟨by have := HD.out; first | (rw [this]; done) | (simp at this ⊢; exact this), _, World.drewN_drewN _ _ _⟩
          · exact absurd rfl huv
      · obtain rfl : k = n := by omega
        go_wp2_with fail
        go_ret
        refine ⟨?_, _, rfl⟩
        have heq : xs = ys := eq_of_agree (HX.out.trans HY.out.symm) (fun j hj => HG.out j (by have := HX.out; omega))
        simp [heq]
  · have hne : xs ≠ ys := by
      intro e; subst e; omega
    have hd : decide (xs = ys) = false := by simp [hne]
    rw [hd]
    have hb : ((n : Int) != (m : Int)) = true := by rw [bne_iff_ne]; omega
    clear hx hy hne hd hnm
    go_enter Tryd.func36, Tryd.ntmps36
    go_wp2_with fail
    go_ret
    exact ⟨rfl, 0, rfl⟩
end Go.Proofs.YtggijcebobjghaaDoor.Sm
