/-
  THE WALKS of dappleref00's Same..: two lists are compared.
-/
import Derived.Test.YtlhhcocdhkbdnaaDoorProg
import Derived.Test.YtlhhcocdhkbdnaaDoorHeap
import Derived.KernelRfl
import Derived.Deep.QuietTactic
import Derived.BigQuiet
import Derived.Deep.Draws
set_option linter.unusedVariables false
set_option linter.unusedSimpArgs false
namespace Go.Proofs.YtlhhcocdhkbdnaaDoor.Sm
open Go.RowKit Go.Proofs.YtlhhcocdhkbdnaaDoor.Hp

/-- Do two lists agree in their first k places? -/
theorem eq_of_agree {α : Type} {xs ys : List α} (hl : xs.length = ys.length) (h : ∀ j, j < xs.length → xs[j]? = ys[j]?) : xs = ys := by
  apply List.ext_getElem? ; intro j
  rcases Nat.lt_or_ge j xs.length with hj | hj
  · exact h j hj
  · rw [List.getElem?_eq_none hj, List.getElem?_eq_none (by omega)]

def ints (k : IntKind) (xs : List Int) : List Value := xs.map (Value.int k)
theorem ints_get {k : IntKind} {xs : List Int} {j : Nat} (h : j < xs.length) : (ints k xs)[j]? = some (.int k (xs.getD j 0)) := by simp [ints, h]
theorem rd_ints {w : World} {ao : Option Addr} {k : IntKind} {xs : List Int} {n : Nat} (h : Rd w ao n (ints k xs)) : xs.length = n ∧ (n = 0 ∨ ∃ b off, ao = some ⟨b, off, none⟩ ∧ ∀ j, j < n → w.cell? ⟨b, off + j, none⟩ = some (.int k (xs.getD j 0))) := by
  obtain ⟨h1, h2⟩ := h
  have hl : xs.length = n := by simpa [ints] using h1
  exact ⟨hl, h2.imp id fun ⟨b, off, ha, hc⟩ => ⟨b, off, ha, fun j hj => (hc j hj).trans (ints_get (by omega))⟩⟩

theorem rd_new (w : World) (k : IntKind) (l : List Int) (t : TypeId) : Rd (w.alloc (.cells (ints k l).toArray t)) (some ⟨w.heap.size, 0, none⟩) l.length (ints k l) :=
  ⟨by simp [ints], .inr ⟨w.heap.size, 0, rfl, fun j hj => by rw [Nat.zero_add, World.cell?_alloc_at _ _ _ _ rfl]; simp⟩⟩
set_option maxHeartbeats 1000000 in
theorem SameInts_any (w : World) (ao bo : Option Addr) (n cn m cm : Nat) (xs ys : List Int) (hn : n ≤ cn) (hcn : cn ≤ maxLen) (hm : m ≤ cm) (hcm : cm ≤ maxLen) (hx : Rd w ao n (ints .i64 xs)) (hy : Rd w bo m (ints .i64 ys)) :
    Calls Tryd.prog 15 #[.slice ao n cn, .slice bo m cm] w fun e w' => e = .returned (.bool (decide (xs = ys))) ∧ ∃ d, w' = w.drewN d := by
  obtain ⟨hxl, hx⟩ := rd_ints hx
  obtain ⟨hyl, hy⟩ := rd_ints hy
  unfold maxLen at hcn hcm
  by_cases hnm : n = m
  · subst hnm
    have hcell : ∃ b off b' off', (0 < n → ao = some ⟨b, off, none⟩ ∧ bo = some ⟨b', off', none⟩) ∧ ∀ j, j < n → w.cell? ⟨b, off + j, none⟩ = some (.int .i64 (xs.getD j 0)) ∧ w.cell? ⟨b', off' + j, none⟩ = some (.int .i64 (ys.getD j 0)) := by
      rcases hx with rfl | ⟨b, off, ha, hx⟩
      · exact ⟨0, 0, 0, 0, fun h => absurd h (by omega), fun j hj => absurd hj (by omega)⟩
      · rcases hy with rfl | ⟨b', off', hb, hy⟩
        · exact ⟨0, 0, 0, 0, fun h => absurd h (by omega), fun j hj => absurd hj (by omega)⟩
        · exact ⟨b, off, b', off', fun _ => ⟨ha, hb⟩, fun j hj => ⟨hx j hj, hy j hj⟩⟩
    clear hx hy
    obtain ⟨b, off, b', off', hao, hcell⟩ := hcell
    have HA := Lib.hid hao
    have HC := Lib.hid hcell
    have HX := Lib.hid hxl
    have HY := Lib.hid hyl
    clear hao hcell hxl hyl
    go_enter Tryd.func15, Tryd.ntmps15
    go_wp2_with fail
    go_loopw [5] (fun i wr => ∃ k d : Nat, k ≤ n ∧ i = .int .i64 k ∧ wr = w.drewN d ∧ (∀ j, j < k → xs[j]? = ys[j]?)) (fun i _ => n - (intOf i).toNat)
    case atStart => exact ⟨0, 0, by omega, rfl, rfl, fun j hj => absurd hj (by omega)⟩
    case round =>
      obtain ⟨k, d, hk, rfl, rfl, hag⟩ := hrel
      have HG := Lib.hid hag
      clear hag
      by_cases hlt : k < n
      · obtain ⟨rfl, rfl⟩ := HA.out (by omega)
        obtain ⟨c1, c2⟩ := HC.out k hlt
        generalize hu : xs.getD k 0 = u at *
        generalize hv : ys.getD k 0 = v at *
        have HU := Lib.hid hu
        have HV := Lib.hid hv
        clear hu hv
        by_cases huv : u = v
        · have huv' : (u != v) = false := by simpa using huv
          have HUV := Lib.hid huv
          clear huv
          go_wp2_with fail
          go_quiet (fail)
          go_wp2_with fail
          go_roundw
          case rel => exact ⟨k + 1, _, by omega, by go_num, rfl, fun j hj => by
            rcases Nat.lt_or_ge j k with h | h
            · exact HG.out j h
            · obtain rfl : j = k := by omega
              have a1 := HX.out; have a2 := HY.out; have e1 := HU.out; have e2 := HV.out; have e3 := HUV.out
              rw [List.getElem?_eq_getElem (by omega), List.getElem?_eq_getElem (by omega)]
              simp [List.getD, show j < xs.length by omega, show j < ys.length by omega] at e1 e2
              rw [e1, e2, e3]⟩
          case measure => simp [intOf]; omega
        · have huv' : (u != v) = true := by simpa using huv
          have HUV := Lib.hid huv
          clear huv
          go_wp2_with fail
          go_quiet (fail)
          go_wp2_with fail
          go_ret
          refine ⟨?_, _, World.drewN_drewN _ _ _⟩
          have hne : xs ≠ ys := by
            intro e
            apply HUV.out
            rw [← HU.out, ← HV.out, e]
          simp [hne]
      · obtain rfl : k = n := by omega
        go_wp2_with fail
        go_ret
        refine ⟨?_, _, rfl⟩
        have heq : xs = ys := eq_of_agree (HX.out.trans HY.out.symm) (fun j hj => HG.out j (by have := HX.out; omega))
        simp [heq]
  · have hne : xs ≠ ys := by
      intro e; subst e; omega
    have hd : decide (xs = ys) = false := by simp [hne]
    rw [hd]
    have hb : ((n : Int) != (m : Int)) = true := by rw [bne_iff_ne]; omega
    clear hx hy hne hd hnm
    go_enter Tryd.func15, Tryd.ntmps15
    go_wp2_with fail
    go_ret
    exact ⟨rfl, 0, rfl⟩
end Go.Proofs.YtlhhcocdhkbdnaaDoor.Sm
