/-
  THE WALKS of dappleref00's SameWords, SameBools. (Written by wip/gen_samewb.py out of XSame.)
  THE WALK of dappleref00.SameCells, for any two lists.
  LISTS THAT ARE LENT (dappleref00's Lent.., Whole.., Spoil..): an append into room that is known to be there.
  THE WALKS of LentWords, WholeWords, SpoilWords.
  THE WALKS of LentCells, WholeCells, SpoilCells.
  THE WALKS of LentInts, WholeInts, SpoilInts.
-/
import Derived.Test.YtlhhcocdhkbdnaaDoorQJApp
import Derived.Test.YtlhhcocdhkbdnaaDoorQJReachP
set_option linter.unusedVariables false
set_option linter.unusedSimpArgs false
namespace Go.Proofs.YtlhhcocdhkbdnaaDoor.Sm
open Go.RowKit Go.Proofs.YtlhhcocdhkbdnaaDoor.Hp
def bools (l : List Bool) : List Value := l.map Value.bool
theorem bools_get {xs : List Bool} {j : Nat} (h : j < xs.length) : (bools xs)[j]? = some (.bool (xs.getD j true)) := by simp [bools, h]
theorem rd_bools {w : World} {ao : Option Addr} {xs : List Bool} {n : Nat} (h : Rd w ao n (bools xs)) : xs.length = n ∧ (n = 0 ∨ ∃ b off, ao = some ⟨b, off, none⟩ ∧ ∀ j, j < n → w.cell? ⟨b, off + j, none⟩ = some (.bool (xs.getD j true))) := by
  obtain ⟨h1, h2⟩ := h
  have hl : xs.length = n := by simpa [bools] using h1
  exact ⟨hl, h2.imp id fun ⟨b, off, ha, hc⟩ => ⟨b, off, ha, fun j hj => (hc j hj).trans (bools_get (by omega))⟩⟩
set_option maxHeartbeats 1000000 in
theorem SameWords_any (w : World) (ao bo : Option Addr) (n cn m cm : Nat) (xs ys : List Int) (hn : n ≤ cn) (hcn : cn ≤ maxLen) (hm : m ≤ cm) (hcm : cm ≤ maxLen) (hx : Rd w ao n (ints .u64 xs)) (hy : Rd w bo m (ints .u64 ys)) :
    Calls Tryd.prog 84 #[.slice ao n cn, .slice bo m cm] w fun e w' => e = .returned (.bool (decide (xs = ys))) ∧ ∃ d, w' = w.drewN d := by
  obtain ⟨hxl, hx⟩ := rd_ints hx
  obtain ⟨hyl, hy⟩ := rd_ints hy
  unfold maxLen at hcn hcm
  by_cases hnm : n = m
  · subst hnm
    have hcell : ∃ b off b' off', (0 < n → ao = some ⟨b, off, none⟩ ∧ bo = some ⟨b', off', none⟩) ∧ ∀ j, j < n → w.cell? ⟨b, off + j, none⟩ = some (.int .u64 (xs.getD j 0)) ∧ w.cell? ⟨b', off' + j, none⟩ = some (.int .u64 (ys.getD j 0)) := by
      rcases hx with rfl | ⟨b, off, ha, hx⟩
      · exact ⟨0, 0, 0, 0, fun h => absurd h (by omega), fun j hj => absurd hj (by omega)⟩
      · rcases hy with rfl | ⟨b', off', hb, hy⟩
        · exact ⟨0, 0, 0, 0, fun h => absurd h (by omega), fun j hj => absurd hj (by omega)⟩
        · exact ⟨b, off, b', off', fun _ => ⟨ha, hb⟩, fun j hj => ⟨hx j hj, hy j hj⟩⟩
    clear hx hy
    obtain ⟨b, off, b', off', hao, hcell⟩ := hcell
    have HA := Lib.hid hao
    have HC := Lib.hid hcell
    have HX := Lib.hid hxl
    have HY := Lib.hid hyl
    clear hao hcell hxl hyl
    go_enter Tryd.func84, Tryd.ntmps84
    go_wp2_with fail
    go_loopw [5] (fun i wr => ∃ k d : Nat, k ≤ n ∧ i = .int .i64 k ∧ wr = w.drewN d ∧ (∀ j, j < k → xs[j]? = ys[j]?)) (fun i _ => n - (intOf i).toNat)
    case atStart => exact ⟨0, 0, by omega, rfl, rfl, fun j hj => absurd hj (by omega)⟩
    case round =>
      obtain ⟨k, d, hk, rfl, rfl, hag⟩ := hrel
      have HG := Lib.hid hag
      clear hag
      by_cases hlt : k < n
      · obtain ⟨rfl, rfl⟩ := HA.out (by omega)
        obtain ⟨c1, c2⟩ := HC.out k hlt
        generalize hu : xs.getD k 0 = u at *
        generalize hv : ys.getD k 0 = v at *
        have HU := Lib.hid hu
        have HV := Lib.hid hv
        clear hu hv
        by_cases huv : u = v
        · have huv' : (u != v) = false := by simpa using huv
          have HUV := Lib.hid huv
          clear huv
          go_wp2_with fail
          go_quiet (fail)
          go_wp2_with fail
          go_roundw
          case rel => exact ⟨k + 1, _, by omega, by go_num, rfl, fun j hj => by
            rcases Nat.lt_or_ge j k with h | h
            · exact HG.out j h
            · obtain rfl : j = k := by omega
              have a1 := HX.out; have a2 := HY.out; have e1 := HU.out; have e2 := HV.out; have e3 := HUV.out
              rw [List.getElem?_eq_getElem (by omega), List.getElem?_eq_getElem (by omega)]
              simp [List.getD, show j < xs.length by omega, show j < ys.length by omega] at e1 e2
              rw [e1, e2, e3]⟩
          case measure => simp [intOf]; omega
        · have huv' : (u != v) = true := by simpa using huv
          have HUV := Lib.hid huv
          clear huv
          go_wp2_with fail
          go_quiet (fail)
          go_wp2_with fail
          go_ret
          refine ⟨?_, _, World.drewN_drewN _ _ _⟩
          have hne : xs ≠ ys := by
            intro e
            apply HUV.out
            rw [← HU.out, ← HV.out, e]
          simp [hne]
      · obtain rfl : k = n := by omega
        go_wp2_with fail
        go_ret
        refine ⟨?_, _, rfl⟩
        have heq : xs = ys := eq_of_agree (HX.out.trans HY.out.symm) (fun j hj => HG.out j (by have := HX.out; omega))
        simp [heq]
  · have hne : xs ≠ ys := by
      intro e; subst e; omega
    have hd : decide (xs = ys) = false := by simp [hne]
    rw [hd]
    have hb : ((n : Int) != (m : Int)) = true := by rw [bne_iff_ne]; omega
    clear hx hy hne hd hnm
    go_enter Tryd.func84, Tryd.ntmps84
    go_wp2_with fail
    go_ret
    exact ⟨rfl, 0, rfl⟩
set_option maxHeartbeats 1000000 in
theorem SameBools_any (w : World) (ao bo : Option Addr) (n cn m cm : Nat) (xs ys : List Bool) (hn : n ≤ cn) (hcn : cn ≤ maxLen) (hm : m ≤ cm) (hcm : cm ≤ maxLen) (hx : Rd w ao n (bools xs)) (hy : Rd w bo m (bools ys)) :
    Calls Tryd.prog 37 #[.slice ao n cn, .slice bo m cm] w fun e w' => e = .returned (.bool (decide (xs = ys))) ∧ ∃ d, w' = w.drewN d := by
  obtain ⟨hxl, hx⟩ := rd_bools hx
  obtain ⟨hyl, hy⟩ := rd_bools hy
  unfold maxLen at hcn hcm
  by_cases hnm : n = m
  · subst hnm
    have hcell : ∃ b off b' off', (0 < n → ao = some ⟨b, off, none⟩ ∧ bo = some ⟨b', off', none⟩) ∧ ∀ j, j < n → w.cell? ⟨b, off + j, none⟩ = some (.bool (xs.getD j true)) ∧ w.cell? ⟨b', off' + j, none⟩ = some (.bool (ys.getD j true)) := by
      rcases hx with rfl | ⟨b, off, ha, hx⟩
      · exact ⟨0, 0, 0, 0, fun h => absurd h (by omega), fun j hj => absurd hj (by omega)⟩
      · rcases hy with rfl | ⟨b', off', hb, hy⟩
        · exact ⟨0, 0, 0, 0, fun h => absurd h (by omega), fun j hj => absurd hj (by omega)⟩
        · exact ⟨b, off, b', off', fun _ => ⟨ha, hb⟩, fun j hj => ⟨hx j hj, hy j hj⟩⟩
    clear hx hy
    obtain ⟨b, off, b', off', hao, hcell⟩ := hcell
    have HA := Lib.hid hao
    have HC := Lib.hid hcell
    have HX := Lib.hid hxl
    have HY := Lib.hid hyl
    clear hao hcell hxl hyl
    go_enter Tryd.func37, Tryd.ntmps37
    go_wp2_with fail
    go_loopw [5] (fun i wr => ∃ k d : Nat, k ≤ n ∧ i = .int .i64 k ∧ wr = w.drewN d ∧ (∀ j, j < k → xs[j]? = ys[j]?)) (fun i _ => n - (intOf i).toNat)
    case atStart => exact ⟨0, 0, by omega, rfl, rfl, fun j hj => absurd hj (by omega)⟩
    case round =>
      obtain ⟨k, d, hk, rfl, rfl, hag⟩ := hrel
      have HG := Lib.hid hag
      clear hag
      by_cases hlt : k < n
      · obtain ⟨rfl, rfl⟩ := HA.out (by omega)
        obtain ⟨c1, c2⟩ := HC.out k hlt
        generalize hu : xs.getD k true = u at *
        generalize hv : ys.getD k true = v at *
        have HU := Lib.hid hu
        have HV := Lib.hid hv
        clear hu hv
        by_cases huv : u = v
        · subst huv
          have HX2 := HX
          cases u
          all_goals
            go_wp2_with fail
            go_quiet (fail)
            go_wp2_with fail
            go_roundw
            case rel => exact ⟨k + 1, _, by omega, by go_num, rfl, fun j hj => by
              rcases Nat.lt_or_ge j k with h | h
              · exact HG.out j h
              · obtain rfl : j = k := by omega
                have a1 := HX.out; have a2 := HY.out; have e1 := HU.out; have e2 := HV.out
                rw [List.getElem?_eq_getElem (by omega), List.getElem?_eq_getElem (by omega)]
                simp [List.getD, show j < xs.length by omega, show j < ys.length by omega] at e1 e2
                rw [e1, e2]⟩
            case measure => simp [intOf]; omega
        · have hne : xs ≠ ys := by
            intro e
            apply huv
            rw [← HU.out, ← HV.out, e]
          have hd : decide (xs = ys) = false := by simp [hne]
          have HD := Lib.hid hd
          clear hne hd
          cases u <;> cases v
          · exact absurd rfl huv
          · clear huv
            go_wp2_with fail
            go_quiet (fail)
            go_wp2_with fail
            go_ret
            exact ⟨by have := HD.out; first | (rw [this]; done) | (simp at this ⊢; exact this), _, World.drewN_drewN _ _ _⟩
          · clear huv
            go_wp2_with fail
            go_quiet (fail)
            go_wp2_with fail
            go_ret
            exact ⟨by have := HD.out; first | (rw [this]; done) | (simp at this ⊢; exact this), _, World.drewN_drewN _ _ _⟩
          · exact absurd rfl huv
      · obtain rfl : k = n := by omega
        go_wp2_with fail
        go_ret
        refine ⟨?_, _, rfl⟩
        have heq : xs = ys := eq_of_agree (HX.out.trans HY.out.symm) (fun j hj => HG.out j (by have := HX.out; omega))
        simp [heq]
  · have hne : xs ≠ ys := by
      intro e; subst e; omega
    have hd : decide (xs = ys) = false := by simp [hne]
    rw [hd]
    have hb : ((n : Int) != (m : Int)) = true := by rw [bne_iff_ne]; omega
    clear hx hy hne hd hnm
    go_enter Tryd.func37, Tryd.ntmps37
    go_wp2_with fail
    go_ret
    exact ⟨rfl, 0, rfl⟩
end Go.Proofs.YtlhhcocdhkbdnaaDoor.Sm

set_option linter.unusedVariables false
set_option linter.unusedSimpArgs false
namespace Go.Proofs.YtlhhcocdhkbdnaaDoor.Sm
open Go.RowKit Go.Proofs.YtlhhcocdhkbdnaaDoor.Hp Go.Proofs.YtlhhcocdhkbdnaaDoor.Gp

theorem cel_ext (l : List Cel) (j : Nat) (h : j < l.length) : l[j]? = some (l.getD j z) := by simp [List.getD, h]
set_option maxHeartbeats 1000000 in
theorem SameCells_any (w : World) (ao bo : Option Addr) (n cn m cm : Nat) (xs ys : List Cel) (hn : n ≤ 1000000) (hm : m ≤ 1000000) (hxl : xs.length = n) (hyl : ys.length = m) (hx : Rd w ao (n * 4) (flat xs)) (hy : Rd w bo (m * 4) (flat ys)) :
    Calls Tryd.prog 42 #[.slice ao n cn, .slice bo m cm] w fun e w' => e = .returned (.bool (decide (xs = ys))) ∧ ∃ d, w' = w.drewN d := by
  by_cases hnm : n = m
  · subst hnm
    have HRX := Lib.hid hx
    have HRY := Lib.hid hy
    have HX := Lib.hid hxl
    have HY := Lib.hid hyl
    clear hx hy hxl hyl
    go_enter Tryd.func42, Tryd.ntmps42
    go_wp2_with fail
    go_loopw [5] (fun i wr => ∃ k d : Nat, k ≤ n ∧ i = .int .i64 k ∧ wr = w.drewN d ∧ (∀ j, j < k → xs[j]? = ys[j]?)) (fun i _ => n - (intOf i).toNat)
    case atStart => exact ⟨0, 0, by omega, rfl, rfl, fun j hj => absurd hj (by omega)⟩
    case round =>
      obtain ⟨k, d, hk, rfl, rfl, hag⟩ := hrel
      have HG := Lib.hid hag
      clear hag
      by_cases hlt : k < n
      · obtain ⟨b, off, rfl, hj⟩ := HRX.out.2.resolve_left (by omega)
        obtain ⟨b', off', rfl, hj'⟩ := HRY.out.2.resolve_left (by omega)
        have hA : ∀ t, t < 4 → (w.drewN d).cell? ⟨b, off + (k * 4 + t), none⟩ = (celV (xs.getD k z))[t]? := fun t ht => (hj _ (by omega)).trans (flat_get xs k t (by rw [HX.out]; exact hlt) ht)
        have hB : ∀ t, t < 4 → (w.drewN d).cell? ⟨b', off' + (k * 4 + t), none⟩ = (celV (ys.getD k z))[t]? := fun t ht => (hj' _ (by omega)).trans (flat_get ys k t (by rw [HY.out]; exact hlt) ht)
        have a0 := hA 0 (by omega)
        have a1 := hA 1 (by omega)
        have a2 := hA 2 (by omega)
        have a3 := hA 3 (by omega)
        have b0 := hB 0 (by omega)
        have b1 := hB 1 (by omega)
        have b2 := hB 2 (by omega)
        have b3 := hB 3 (by omega)
        have HU := Lib.hid (cel_ext xs k (by rw [HX.out]; exact hlt))
        have HV := Lib.hid (cel_ext ys k (by rw [HY.out]; exact hlt))
        clear hA hB hj hj'
        have hltI : (k : Int) < n := by omega
        obtain ⟨wd, hwd⟩ : ∃ wd, wd = w.drewN d := ⟨_, rfl⟩
        rw [← hwd] at a0 a1 a2 a3 b0 b1 b2 b3 ⊢
        have HW := Lib.hid hwd
        clear hwd
        generalize xs.getD k z = x at *
        generalize ys.getD k z = y at *
        have HXY : Hid (x = y → ∀ j, j < k + 1 → xs[j]? = ys[j]?) := Lib.hid (fun e j hj => by
          rcases Nat.lt_or_ge j k with h | h
          · exact HG.out j h
          · obtain rfl : j = k := by omega
            rw [HU.out, HV.out, e])
        have HNE : Hid (x ≠ y → decide (xs = ys) = false) := Lib.hid (fun e => by
          have : xs ≠ ys := fun e2 => by subst e2; have := HU.out.symm.trans HV.out; simp at this; exact e this
          simp [this])
        clear HU HV
        by_cases hxy : x = y
        · subst hxy
          have P := Lib.hid (HXY.out rfl)
          clear HXY HNE
          obtain ⟨xk, xc, xa, xb⟩ := x
          simp only [celV, List.getElem?_cons_zero, List.getElem?_cons_succ, Nat.add_zero, ← Nat.add_assoc] at a0 a1 a2 a3 b0 b1 b2 b3
          go_wp2_with fail
          go_quiet (fail)
          go_wp2_with fail
          go_roundw
          case rel => exact ⟨k + 1, _, by omega, by go_num, by rw [HW.out, World.drewN_drewN], P.out⟩
          case measure => simp [intOf]; omega
        · have P := Lib.hid (HNE.out hxy)
          clear HXY HNE
          obtain ⟨xk, xc, xa, xb⟩ := x
          obtain ⟨yk, yc, ya, yb⟩ := y
          simp only [celV, List.getElem?_cons_zero, List.getElem?_cons_succ, Nat.add_zero, ← Nat.add_assoc] at a0 a1 a2 a3 b0 b1 b2 b3
          simp only [Cel.mk.injEq] at hxy
          have hcase : (xk ≠ yk) ∨ (xk = yk ∧ xc ≠ yc) ∨ (xk = yk ∧ xc = yc ∧ xa ≠ ya) ∨ (xk = yk ∧ xc = yc ∧ xa = ya ∧ xb ≠ yb) := by omega
          clear hxy
          rcases hcase with h | ⟨rfl, h⟩ | ⟨rfl, rfl, h⟩ | ⟨rfl, rfl, rfl, h⟩
          all_goals
            go_wp2_with fail
            go_quiet (fail)
            go_wp2_with fail
            go_ret
            exact ⟨by have := P.out; first | (rw [this]; done) | (simp at this ⊢; exact this), _, by rw [HW.out, World.drewN_drewN]⟩
      · obtain rfl : k = n := by omega
        have heq : xs = ys := eq_of_agree (HX.out.trans HY.out.symm) (fun j hj => HG.out j (by have := HX.out; omega))
        have hd : decide (xs = ys) = true := by simp [heq]
        have P := Lib.hid hd
        clear heq hd
        go_wp2_with fail
        go_ret
        exact ⟨by have := P.out; first | (rw [this]; done) | (simp at this ⊢; exact this), _, rfl⟩
  · have hne : xs ≠ ys := by
      intro e; subst e; omega
    have hd : decide (xs = ys) = false := by simp [hne]
    rw [hd]
    have hb : ((n : Int) != (m : Int)) = true := by rw [bne_iff_ne]; omega
    clear hx hy hne hd hnm hxl hyl
    go_enter Tryd.func42, Tryd.ntmps42
    go_wp2_with fail
    go_ret
    exact ⟨rfl, 0, rfl⟩
end Go.Proofs.YtlhhcocdhkbdnaaDoor.Sm

set_option linter.unusedVariables false
set_option linter.unusedSimpArgs false
set_option maxRecDepth 100000
namespace Go.Proofs.YtlhhcocdhkbdnaaDoor.Hp
open Go.RowKit
theorem wpList_append_room {P : Program} (w : World) {ops : Array Oper} {rest : List Oper} {o : Oper} {a : Act} {Q : Exit → Act → World → Prop}
    (hg : o.guard = none) (s x : Operand) (t : TypeId) (hop : o.op = Op.call { callee := Callee.builtin Builtin.append, args := #[s, x], argTypes := #[t, t] })
    (e : TypeId) (i : TypeInfo) (size : Nat) (h1 : P.underlying t = some (.slice e)) (h2 : P.info? e = some i) (h4 : i.size = size)
    (b n cap : Nat) (hs : a.eval s = .slice (some ⟨b, 0, none⟩) n cap) (arr : Array Value) (hb : w.heap[b]? = some (.cells arr e (0, 0))) (hsz : arr.size = cap * size)
    (ad : Addr) (m c : Nat) (news : List Value) (hx : a.eval x = .slice (some ad) m c) (hn : news.length = m * size) (hc : ∀ j u, news[j]? = some u → w.cell? (ad.add j) = some u) (h1c : ∀ u ∈ news, u.oneCell' = true) (hroom : n + m ≤ cap)
    (hK : ∀ w' arr', w'.heap[b]? = some (.cells arr' e (0, 0)) → arr'.size = arr.size → (∀ j, j < n * size → arr'[j]? = arr[j]?) → (∀ j, j < m * size → arr'[n * size + j]? = news[j]?) → Ch [b] w w' → wpList P ops Q rest (a.put o.dst (.slice (some ⟨b, 0, none⟩) (n + m) cap)) w') :
    wpList P ops Q (o :: rest) a w := by
  refine wpList_plain hg fun K hK' => ?_
  subst h4
  have hle : (n + m) * i.size ≤ cap * i.size := Nat.mul_le_mul_right _ hroom
  have hmul : (n + m) * i.size = n * i.size + m * i.size := Nat.add_mul _ _ _
  obtain ⟨arr', g1, g2, g3, g4, g5⟩ := heap_setCells b news (0 + n * i.size) w arr e (0, 0) hb (by rw [hn]; omega)
  have hrun := run_append_room_cells (P := P) w t o.type e i h1 h2 b 0 n cap ad m c news hn hc h1c hroom
    (fun j hj => by rw [cell_at hb, Array.getElem?_eq_getElem (by omega)]; rfl) (fun j _ => free_at hb)
  unfold Oper.wp
  simp [execOp, hop, resolve, invoke, builtin, hs, hx, hrun, Result.andThen]
  exact hK' _ _ (hK _ _ (by simpa using g1) g2 (fun j hj => g3 j (by omega)) (fun j hj => by have := g4 j (by rw [hn]; exact hj); simpa using this) (by simpa using g5))
/-- .. of nothing at all. -/
theorem wpList_append_none {P : Program} (w : World) {ops : Array Oper} {rest : List Oper} {o : Oper} {a : Act} {Q : Exit → Act → World → Prop}
    (hg : o.guard = none) (s x : Operand) (t : TypeId) (hop : o.op = Op.call { callee := Callee.builtin Builtin.append, args := #[s, x], argTypes := #[t, t] })
    (e : TypeId) (i : TypeInfo) (h1 : P.underlying t = some (.slice e)) (h2 : P.info? e = some i)
    (b n cap : Nat) (hs : a.eval s = .slice (some ⟨b, 0, none⟩) n cap) (c : Nat) (ao : Option Addr) (hx : a.eval x = .slice ao 0 c) (hroom : n ≤ cap)
    (hK : wpList P ops Q rest (a.put o.dst (.slice (some ⟨b, 0, none⟩) n cap)) w) :
    wpList P ops Q (o :: rest) a w := by
  refine wpList_plain hg fun K hK' => ?_
  unfold Oper.wp
  cases ao with
  | none =>
    simp [execOp, hop, resolve, invoke, builtin, hs, hx, Builtin.append_, run_underlying h1, sizeOf, typeInfo, h2, Builtin.lenOf, Builtin.firstCells, storeCells, hroom, Result.andThen]
    exact hK' _ _ hK
  | some ad =>
    have hf := run_firstCells_some (P := P) w i.size 0 ad 0 c [] (by simp) (fun j u h => by simp at h)
    simp [execOp, hop, resolve, invoke, builtin, hs, hx, Builtin.append_, run_underlying h1, sizeOf, typeInfo, h2, Builtin.lenOf, hf, storeCells, hroom, Result.andThen]
    exact hK' _ _ hK
end Go.Proofs.YtlhhcocdhkbdnaaDoor.Hp

set_option linter.unusedVariables false
set_option linter.unusedSimpArgs false
set_option maxRecDepth 100000
namespace Go.Proofs.YtlhhcocdhkbdnaaDoor.Gr
open Go.RowKit Go.Proofs.YtlhhcocdhkbdnaaDoor.Wd Go.Proofs.YtlhhcocdhkbdnaaDoor.Hp Go.Proofs.YtlhhcocdhkbdnaaDoor.Gp Go.Proofs.YtlhhcocdhkbdnaaDoor.Sm
theorem run_make_words (w : World) (n : Nat) (h : n ≤ 1000000) : (Instr.makeSlice 62 (.int .i64 0) (.int .i64 ((n : Int) + 2))).run Tryd.prog w = .ok (.slice (some ⟨w.heap.size, 0, none⟩) 0 (n + 2)) (w.alloc (.cells (ints .u64 (List.replicate (n + 2) 0)).toArray 24)) := by
  obtain ⟨i, hi, he⟩ := Option.map_eq_some_iff.1 infoWord
  simp only [Prod.mk.injEq] at he
  obtain ⟨e1, e2, e3⟩ := he
  have := run_make (P := Tryd.prog) w 62 24 i _ Tryd.underlying62 hi e1 .i64 .i64 0 ((n : Int) + 2) (by omega) (by omega) (by rw [e3]; omega) (by omega)
  rw [this, e2]
  have e4 : (Value.int .u64 0).cells = #[.int .u64 0] := rfl
  rw [e4, Nat.mul_one, made_one, show ((n : Int) + 2).toNat = n + 2 by omega, show ints .u64 (List.replicate (n + 2) 0) = List.replicate (n + 2) (.int .u64 0) by simp [ints]]
  rfl
/-- A list of n words in a block of its own, with two marks behind it. -/
def LentWs (w : World) (q : Nat) (ws : List Int) : Prop := w.heap[q]? = some (.cells (ints .u64 (ws ++ [77777771, 77777772])).toArray 24 (0, 0))
set_option maxHeartbeats 1000000 in
theorem LentWords_any (w : World) (ao : Option Addr) (n cn : Nat) (ws : List Int) (hn : n ≤ 1000000) (hr : RdF w ao n (ints .u64 ws) []) :
    Calls Tryd.prog 61 #[.slice ao n cn] w fun e w' => ∃ q, e = .returned (.slice (some ⟨q, 0, none⟩) n (n + 2)) ∧ LentWs w' q ws ∧ Ch [] w w' ∧ w.heap.size ≤ q := by
  have hl : ws.length = n := by simpa [ints] using hr.1
  have hmk : ∀ w : World, _ := fun w => run_make_words w n hn
  obtain ⟨i0, hi, he⟩ := Option.map_eq_some_iff.1 infoWord
  simp only [Prod.mk.injEq] at he
  obtain ⟨hz0, hz1, hz2⟩ := he
  have HR := Lib.hid hr
  have HL := Lib.hid hl
  have HB0 := Lib.hid (heap_new w (.cells (ints .u64 (List.replicate (n + 2) 0)).toArray 24))
  have HC0 := Lib.hid ((Ch.refl [] w).alloc (.cells (ints .u64 (List.replicate (n + 2) 0)).toArray 24))
  clear hr hl
  by_cases h0 : n = 0
  · subst h0
    obtain rfl : ws = [] := List.eq_nil_of_length_eq_zero HL.out
    have hmk0 : ∀ w : World, (Instr.makeSlice 62 (.int .i64 0) (.int .i64 2)).run Tryd.prog w = .ok (.slice (some ⟨w.heap.size, 0, none⟩) 0 2) (w.alloc (.cells (ints .u64 (List.replicate (0 + 2) 0)).toArray 24)) := fun w => hmk w
    have HB1 := Lib.hid (heap_old (o' := .cells #[.int .u64 77777771, .int .u64 77777772] 24) HB0.out)
    have HN1 := Lib.hid (newL (w := w.alloc (.cells (ints .u64 (List.replicate (0 + 2) 0)).toArray 24)) (b := w.heap.size + 1) (by simp) [.int .u64 77777771, .int .u64 77777772] 24)
    clear hmk
    go_enter Tryd.func61, Tryd.ntmps61
    go_wp2_with (at_builtin; first | (refine wpList_append_none _ rfl _ _ 62 rfl 24 i0 Tryd.underlying62 hi w.heap.size 0 2 rfl cn ao rfl (by omega) ?_) | (go_loud (refine wpList_append_room _ rfl _ _ 62 rfl 24 i0 1 Tryd.underlying62 hi hz1 w.heap.size 0 2 rfl _ HB1.out (by simp [ints]) ⟨w.heap.size + 1, 0, none⟩ 2 2 [.int .u64 77777771, .int .u64 77777772] rfl rfl HN1.out (one2 _ _ _ _) (by omega) ?_)))
    intro w2 arr2 k1 k2 k4 k5
    have K := Lib.hid (And.intro k1 (And.intro k2 (And.intro k4 k5)))
    clear k1 k2 k4 k5
    go_wp2_with fail
    go_ret
    obtain ⟨k1, k2, k4, k5⟩ := K.out
    refine ⟨w.heap.size, rfl, ?_, ?_, Nat.le_refl _⟩
    · unfold LentWs
      rw [k1]
      congr 2
      apply Array.ext_getElem?
      intro j
      have hsz2 : arr2.size = 2 := by rw [k2]; rfl
      rcases Nat.lt_or_ge j 2 with h | h
      · rw [k4 j h]
        rcases (by omega : j = 0 ∨ j = 1) with rfl | rfl <;> rfl
      · rw [Array.getElem?_eq_none (by omega), Array.getElem?_eq_none (by simp [ints]; omega)]
    · exact (((Ch.refl [] w).alloc _).alloc _).trans k5 (fun x hx => by simp at hx; subst hx; exact .inr (Nat.le_refl _))
  · obtain ⟨b, off, rfl, hbn, hj⟩ := HR.out.2.resolve_left h0
    have HSRC : Hid (∀ (j : Nat) (u : Value), (ints .u64 ws)[j]? = some u → (w.alloc (.cells (ints .u64 (List.replicate (n + 2) 0)).toArray 24)).cell? ((⟨b, off, none⟩ : Addr).add j) = some u) := Lib.hid (fun j u hu => by
      have hlt : j < n := by
        rcases Nat.lt_or_ge j n with h | h
        · exact h
        · rw [List.getElem?_eq_none (by rw [HR.out.1]; exact h)] at hu; cases hu
      rw [Addr.add_lit]
      exact HC0.out.cell ((hj j hlt).trans hu) (by simp))
    have H1C : Hid (∀ u ∈ ints .u64 ws, u.oneCell' = true) := Lib.hid (fun u hu => by simp [ints] at hu; obtain ⟨v, _, rfl⟩ := hu; rfl)
    have HLEN : Hid ((ints .u64 ws).length = n * 1) := Lib.hid (by rw [HR.out.1, Nat.mul_one])
    clear hj hbn
    go_enter Tryd.func61, Tryd.ntmps61
    go_wp2_with (at_builtin; go_loud (refine wpList_append_room _ rfl _ _ 62 rfl 24 i0 1 Tryd.underlying62 hi hz1 w.heap.size 0 (n + 2) rfl _ HB0.out (by simp [ints]) ⟨b, off, none⟩ n cn (ints .u64 ws) rfl HLEN.out HSRC.out H1C.out (by omega) ?_))
    intro w1 arr1 g1 g2 g4 g5
    have M1 : Ch [] w1 (w1.alloc (.cells #[.int .u64 77777771, .int .u64 77777772] 24)) := (Ch.refl _ _).alloc _
    have HB1 := Lib.hid (M1.heap g1 (by simp))
    have hs1 : arr1.size = (n + 2) * 1 := by rw [g2]; simp [ints]
    have HS1 := Lib.hid hs1
    have HN1 := Lib.hid (newL (w := w1) (b := w1.heap.size) rfl [.int .u64 77777771, .int .u64 77777772] 24)
    have HCW : Hid (Ch [] w w1) := Lib.hid (HC0.out.trans g5 (fun x hx => by simp at hx; subst hx; exact .inr (Nat.le_refl _)))
    have G4 := Lib.hid g4
    clear g1 g2 g4 g5 hs1 M1
    go_wp2_with (at_builtin; go_loud (refine wpList_append_room _ rfl _ _ 62 rfl 24 i0 1 Tryd.underlying62 hi hz1 w.heap.size n (n + 2) rfl _ HB1.out HS1.out ⟨w1.heap.size, 0, none⟩ 2 2 [.int .u64 77777771, .int .u64 77777772] rfl rfl HN1.out (one2 _ _ _ _) (by omega) ?_))
    intro w2 arr2 k1 k2 k3 k4 k5
    have K := Lib.hid (And.intro k1 (And.intro k2 (And.intro k3 (And.intro k4 k5))))
    clear k1 k2 k3 k4 k5
    go_wp2_with fail
    go_ret
    obtain ⟨k1, k2, k3, k4, k5⟩ := K.out
    refine ⟨w.heap.size, rfl, ?_, ?_, Nat.le_refl _⟩
    · unfold LentWs
      rw [k1]
      congr 2
      apply Array.ext_getElem?
      intro j
      have hsz2 : arr2.size = n + 2 := by rw [k2, HS1.out]; omega
      have hll : (ints .u64 ws).length = n := HR.out.1
      rw [show ints .u64 (ws ++ [77777771, 77777772]) = ints .u64 ws ++ [.int .u64 77777771, .int .u64 77777772] by simp [ints]]
      have e : ∀ L : List Value, L.toArray[j]? = L[j]? := fun L => by simp
      refine Eq.trans ?_ (e _).symm
      rcases Nat.lt_or_ge j n with h | h
      · rw [k3 j (by omega), G4.out j h, List.getElem?_append_left (by omega)]
      · rcases Nat.lt_or_ge j (n + 2) with h2 | h2
        · have := k4 (j - n) (by omega)
          rw [show n + (j - n) = j by omega] at this
          rw [this, List.getElem?_append_right (by omega), hll]
        · rw [Array.getElem?_eq_none (by omega), List.getElem?_eq_none (by rw [List.length_append, hll]; simp; omega)]
    · exact (HCW.out.alloc _).trans k5 (fun x hx => by simp at hx; subst hx; exact .inr (Nat.le_refl _))
theorem LentWs.rd {w : World} {q : Nat} {ws : List Int} (h : LentWs w q ws) : Rd w (some ⟨q, 0, none⟩) ws.length (ints .u64 ws) :=
  ⟨by simp [ints], .inr ⟨q, 0, rfl, fun j hj => by
    rw [Nat.zero_add, cell_at h]
    simp only [ints, List.map_append, List.getElem?_toArray]
    rw [List.getElem?_append_left (by simpa using hj)]⟩⟩
set_option maxHeartbeats 1000000 in
theorem WholeWords_any (w : World) (q : Nat) (bo : Option Addr) (n cm : Nat) (ws : List Int) (hn : n ≤ 1000000) (hcm : n ≤ cm) (hcx : cm ≤ maxLen) (hl : ws.length = n) (h : LentWs w q ws) (hy : Rd w bo n (ints .u64 ws)) :
    Calls Tryd.prog 66 #[.slice (some ⟨q, 0, none⟩) n (n + 2), .slice bo n cm] w fun e w' => e = .returned (.bool true) ∧ ∃ d, w' = w.drewN d := by
  have hrd := h.rd
  rw [hl] at hrd
  have SW := SameWords_any w (some ⟨q, 0, none⟩) bo n (n + 2) n cm ws ws (by omega) (by unfold maxLen; omega) hcm hcx hrd hy
  rw [show decide (ws = ws) = true by simp] at SW
  have m1 : w.cell? ⟨q, n, none⟩ = some (.int .u64 77777771) := by rw [cell_at h]; simp [ints, ← hl]
  have m2 : w.cell? ⟨q, n + 1, none⟩ = some (.int .u64 77777772) := by rw [cell_at h]; simp [ints, ← hl]
  clear hrd hl h hy
  go_enter Tryd.func66, Tryd.ntmps66
  go_wp2_with fail
  refine SW.mono ?_
  rintro e w2 ⟨rfl, d, rfl⟩
  go_wp2_with fail
  go_ret
  exact ⟨rfl, d, rfl⟩
end Go.Proofs.YtlhhcocdhkbdnaaDoor.Gr

set_option linter.unusedVariables false
set_option linter.unusedSimpArgs false
set_option maxRecDepth 100000
namespace Go.Proofs.YtlhhcocdhkbdnaaDoor.Gr
open Go.RowKit Go.Proofs.YtlhhcocdhkbdnaaDoor.Wd Go.Proofs.YtlhhcocdhkbdnaaDoor.Hp Go.Proofs.YtlhhcocdhkbdnaaDoor.Gp Go.Proofs.YtlhhcocdhkbdnaaDoor.Sm
theorem made_cells (n : Nat) : madeCells #[.int .u8 0, .int .u8 0, .int .u64 0, .int .u64 0] (n * 4) = (flat (List.replicate n z)).toArray := by
  apply Array.ext_getElem?
  intro i
  by_cases h : i < n * 4
  · have hq : i = i / 4 * 4 + i % 4 := by omega
    have e1 : (flat (List.replicate n z)).toArray[i]? = (celV z)[i % 4]? := by
      have := flat_get (List.replicate n z) (i / 4) (i % 4) (by simp; omega) (by omega)
      rw [← hq] at this
      rw [List.getElem?_toArray, this]
      have e3 : (List.replicate n z).getD (i / 4) z = z := by simp [List.getD, List.getElem?_replicate]; split <;> rfl
      rw [e3]
    rw [e1]
    have e2 : (madeCells #[.int .u8 0, .int .u8 0, .int .u64 0, .int .u64 0] (n * 4))[i]? = some ((#[.int .u8 0, .int .u8 0, .int .u64 0, .int .u64 0] : Array Value)[i % 4]!) := by simp [madeCells, h]
    rw [e2]
    have : i % 4 = 0 ∨ i % 4 = 1 ∨ i % 4 = 2 ∨ i % 4 = 3 := by omega
    rcases this with h | h | h | h <;> rw [h] <;> rfl
  · rw [Array.getElem?_eq_none (by simp [madeCells]; omega), Array.getElem?_eq_none (by simp [flat_len]; omega)]
theorem run_make_cells (w : World) (n : Nat) (h : n ≤ 1000000) : (Instr.makeSlice 25 (.int .i64 0) (.int .i64 ((n : Int) + 2))).run Tryd.prog w = .ok (.slice (some ⟨w.heap.size, 0, none⟩) 0 (n + 2)) (w.alloc (.cells (flat (List.replicate (n + 2) z)).toArray 58)) := by
  obtain ⟨i, hi, he⟩ := Option.map_eq_some_iff.1 infoCell
  simp only [Prod.mk.injEq] at he
  obtain ⟨e1, e2, e3⟩ := he
  have := run_make (P := Tryd.prog) w 25 58 i _ Tryd.underlying25 hi e1 .i64 .i64 0 ((n : Int) + 2) (by omega) (by omega) (by rw [e3]; omega) (by omega)
  rw [this, e2]
  have e4 : (Value.agg #[.int .u8 0, .int .u8 0, .int .u64 0, .int .u64 0]).cells = #[.int .u8 0, .int .u8 0, .int .u64 0, .int .u64 0] := rfl
  rw [e4, show ((n : Int) + 2).toNat = n + 2 by omega, made_cells]
  rfl
/-- A list of n cells in a block of its own, with two marks behind it. -/
def mk1 : Cel := ⟨0, 0, 77777771, 0⟩
def mk2 : Cel := ⟨0, 0, 77777772, 0⟩
def LentCs (w : World) (q : Nat) (hs : List Cel) : Prop := w.heap[q]? = some (.cells (flat (hs ++ [mk1, mk2])).toArray 58 (0, 0))
def marks : List Value := [.int .u8 0, .int .u8 0, .int .u64 77777771, .int .u64 0, .int .u8 0, .int .u8 0, .int .u64 77777772, .int .u64 0]
theorem marks_flat : flat [mk1, mk2] = marks := rfl
theorem marks_one : ∀ u ∈ marks, u.oneCell' = true := by intro u hu; unfold marks at hu; simp only [List.mem_cons, List.not_mem_nil, or_false] at hu; rcases hu with h | h | h | h | h | h | h | h <;> subst h <;> rfl
theorem flat_one (hs : List Cel) : ∀ u ∈ flat hs, u.oneCell' = true := by
  intro u hu
  simp only [flat, List.mem_flatMap] at hu
  obtain ⟨c, _, hu⟩ := hu
  simp [celV] at hu
  rcases hu with rfl | rfl | rfl | rfl <;> rfl
set_option maxHeartbeats 1000000 in
theorem LentCells_any (w : World) (ao : Option Addr) (n cn : Nat) (hs : List Cel) (hn : n ≤ 1000000) (hl : hs.length = n) (hr : RdF w ao (n * 4) (flat hs) []) :
    Calls Tryd.prog 12 #[.slice ao n cn] w fun e w' => ∃ q, e = .returned (.slice (some ⟨q, 0, none⟩) n (n + 2)) ∧ LentCs w' q hs ∧ Ch [] w w' ∧ w.heap.size ≤ q := by
  have hmk : ∀ w : World, _ := fun w => run_make_cells w n hn
  obtain ⟨i0, hi, he⟩ := Option.map_eq_some_iff.1 infoCell
  simp only [Prod.mk.injEq] at he
  obtain ⟨hz0, hz1, hz2⟩ := he
  have HR := Lib.hid hr
  have HL := Lib.hid hl
  have HB0 := Lib.hid (heap_new w (.cells (flat (List.replicate (n + 2) z)).toArray 58))
  have HC0 := Lib.hid ((Ch.refl [] w).alloc (.cells (flat (List.replicate (n + 2) z)).toArray 58))
  clear hr hl
  by_cases h0 : n = 0
  · subst h0
    obtain rfl : hs = [] := List.eq_nil_of_length_eq_zero HL.out
    have hmk0 : ∀ w : World, (Instr.makeSlice 25 (.int .i64 0) (.int .i64 2)).run Tryd.prog w = .ok (.slice (some ⟨w.heap.size, 0, none⟩) 0 2) (w.alloc (.cells (flat (List.replicate (0 + 2) z)).toArray 58)) := fun w => hmk w
    have HB1 := Lib.hid (heap_old (o' := .cells marks.toArray 58) HB0.out)
    have HN1 := Lib.hid (newL (w := w.alloc (.cells (flat (List.replicate (0 + 2) z)).toArray 58)) (b := w.heap.size + 1) (by simp) marks 58)
    clear hmk
    go_enter Tryd.func12, Tryd.ntmps12
    go_wp2_with (at_builtin; first | (refine wpList_append_none _ rfl _ _ 25 rfl 58 i0 Tryd.underlying25 hi w.heap.size 0 2 rfl cn ao rfl (by omega) ?_) | (go_loud (refine wpList_append_room _ rfl _ _ 25 rfl 58 i0 4 Tryd.underlying25 hi hz1 w.heap.size 0 2 rfl _ HB1.out (by simp [flat_len]) ⟨w.heap.size + 1, 0, none⟩ 2 2 marks rfl rfl HN1.out marks_one (by omega) ?_)))
    intro w2 arr2 k1 k2 k4 k5
    have K := Lib.hid (And.intro k1 (And.intro k2 (And.intro k4 k5)))
    clear k1 k2 k4 k5
    go_wp2_with fail
    go_ret
    obtain ⟨k1, k2, k4, k5⟩ := K.out
    refine ⟨w.heap.size, rfl, ?_, ?_, Nat.le_refl _⟩
    · unfold LentCs
      rw [k1]
      congr 2
      apply Array.ext_getElem?
      intro j
      have hsz2 : arr2.size = 8 := by rw [k2]; simp [flat_len]
      have e : ∀ L : List Value, L.toArray[j]? = L[j]? := fun L => by simp
      rw [show [] ++ [mk1, mk2] = [mk1, mk2] from rfl, marks_flat]
      refine Eq.trans ?_ (e _).symm
      rcases Nat.lt_or_ge j 8 with h | h
      · exact k4 j h
      · rw [Array.getElem?_eq_none (by omega), List.getElem?_eq_none (by simp [marks]; omega)]
    · exact (((Ch.refl [] w).alloc _).alloc _).trans k5 (fun x hx => by simp at hx; subst hx; exact .inr (Nat.le_refl _))
  · obtain ⟨b, off, rfl, hbn, hj⟩ := HR.out.2.resolve_left (by omega)
    have HSRC : Hid (∀ (j : Nat) (u : Value), (flat hs)[j]? = some u → (w.alloc (.cells (flat (List.replicate (n + 2) z)).toArray 58)).cell? ((⟨b, off, none⟩ : Addr).add j) = some u) := Lib.hid (fun j u hu => by
      have hlt : j < n * 4 := by
        rcases Nat.lt_or_ge j (n * 4) with h | h
        · exact h
        · rw [List.getElem?_eq_none (by rw [HR.out.1]; exact h)] at hu; cases hu
      rw [Addr.add_lit]
      exact HC0.out.cell ((hj j hlt).trans hu) (by simp))
    have H1C : Hid (∀ u ∈ flat hs, u.oneCell' = true) := Lib.hid (flat_one hs)
    have HLEN : Hid ((flat hs).length = n * 4) := Lib.hid HR.out.1
    clear hj hbn
    go_enter Tryd.func12, Tryd.ntmps12
    go_wp2_with (at_builtin; go_loud (refine wpList_append_room _ rfl _ _ 25 rfl 58 i0 4 Tryd.underlying25 hi hz1 w.heap.size 0 (n + 2) rfl _ HB0.out (by simp [flat_len]) ⟨b, off, none⟩ n cn (flat hs) rfl HLEN.out HSRC.out H1C.out (by omega) ?_))
    intro w1 arr1 g1 g2 g4 g5
    have M1 : Ch [] w1 (w1.alloc (.cells marks.toArray 58)) := (Ch.refl _ _).alloc _
    have HB1 := Lib.hid (M1.heap g1 (by simp))
    have hs1 : arr1.size = (n + 2) * 4 := by rw [g2]; simp [flat_len]
    have HS1 := Lib.hid hs1
    have HN1 := Lib.hid (newL (w := w1) (b := w1.heap.size) rfl marks 58)
    have HCW : Hid (Ch [] w w1) := Lib.hid (HC0.out.trans g5 (fun x hx => by simp at hx; subst hx; exact .inr (Nat.le_refl _)))
    have G4 := Lib.hid g4
    clear g1 g2 g4 g5 hs1 M1
    go_wp2_with (at_builtin; go_loud (refine wpList_append_room _ rfl _ _ 25 rfl 58 i0 4 Tryd.underlying25 hi hz1 w.heap.size n (n + 2) rfl _ HB1.out HS1.out ⟨w1.heap.size, 0, none⟩ 2 2 marks rfl rfl HN1.out marks_one (by omega) ?_))
    intro w2 arr2 k1 k2 k3 k4 k5
    have K := Lib.hid (And.intro k1 (And.intro k2 (And.intro k3 (And.intro k4 k5))))
    clear k1 k2 k3 k4 k5
    go_wp2_with fail
    go_ret
    obtain ⟨k1, k2, k3, k4, k5⟩ := K.out
    refine ⟨w.heap.size, rfl, ?_, ?_, Nat.le_refl _⟩
    · unfold LentCs
      rw [k1]
      congr 2
      apply Array.ext_getElem?
      intro j
      have hsz2 : arr2.size = (n + 2) * 4 := by rw [k2, HS1.out]
      have hll : (flat hs).length = n * 4 := HLEN.out
      rw [flat_append, marks_flat]
      have e : ∀ L : List Value, L.toArray[j]? = L[j]? := fun L => by simp
      refine Eq.trans ?_ (e _).symm
      rcases Nat.lt_or_ge j (n * 4) with h | h
      · have := G4.out j h
        rw [k3 j (by omega), this, List.getElem?_append_left (by omega)]
      · rcases Nat.lt_or_ge j ((n + 2) * 4) with h2 | h2
        · have := k4 (j - n * 4) (by omega)
          rw [show n * 4 + (j - n * 4) = j by omega] at this
          rw [this, List.getElem?_append_right (by omega), hll]
        · rw [Array.getElem?_eq_none (by omega), List.getElem?_eq_none (by rw [List.length_append, hll]; simp [marks]; omega)]
    · exact (HCW.out.alloc _).trans k5 (fun x hx => by simp at hx; subst hx; exact .inr (Nat.le_refl _))
theorem LentCs.rd {w : World} {q : Nat} {hs : List Cel} (h : LentCs w q hs) : RdF w (some ⟨q, 0, none⟩) (hs.length * 4) (flat hs) [] :=
  ⟨flat_len hs, .inr ⟨q, 0, rfl, by simp, fun j hj => by
    rw [Nat.zero_add, cell_at h, flat_append]
    simp only [List.getElem?_toArray]
    rw [List.getElem?_append_left (by rw [flat_len]; exact hj)]⟩⟩
set_option maxHeartbeats 1000000 in
theorem WholeCells_any (w : World) (q : Nat) (bo : Option Addr) (n cm : Nat) (hs : List Cel) (hn : n ≤ 1000000) (hl : hs.length = n) (h : LentCs w q hs) (hy : Rd w bo (n * 4) (flat hs)) :
    Calls Tryd.prog 19 #[.slice (some ⟨q, 0, none⟩) n (n + 2), .slice bo n cm] w fun e w' => e = .returned (.bool true) ∧ ∃ d, w' = w.drewN d := by
  have hrd := h.rd
  rw [hl] at hrd
  have SW := SameCells_any w (some ⟨q, 0, none⟩) bo n (n + 2) n cm hs hs (by omega) (by omega) hl hl hrd.rd hy
  rw [show decide (hs = hs) = true by simp] at SW
  have hat : ∀ t, t < 8 → w.cell? ⟨q, n * 4 + t, none⟩ = marks[t]? := fun t ht => by
    rw [cell_at h, flat_append, marks_flat, List.getElem?_toArray, List.getElem?_append_right (by rw [flat_len, hl]; omega), flat_len, hl, Nat.add_sub_cancel_left]
  have m0 := hat 0 (by omega)
  have m1 := hat 1 (by omega)
  have m2 := hat 2 (by omega)
  have m3 := hat 3 (by omega)
  have m4 := hat 4 (by omega)
  have m5 := hat 5 (by omega)
  have m6 := hat 6 (by omega)
  have m7 := hat 7 (by omega)
  simp only [marks, List.getElem?_cons_zero, List.getElem?_cons_succ, Nat.add_zero] at m0 m1 m2 m3 m4 m5 m6 m7
  rw [show n * 4 + 4 = (n + 1) * 4 by omega] at m4
  rw [show n * 4 + 5 = (n + 1) * 4 + 1 by omega] at m5
  rw [show n * 4 + 6 = (n + 1) * 4 + 2 by omega] at m6
  rw [show n * 4 + 7 = (n + 1) * 4 + 3 by omega] at m7
  clear hrd hl h hy hat
  go_enter Tryd.func19, Tryd.ntmps19
  go_wp2_with fail
  refine SW.mono ?_
  rintro e w2 ⟨rfl, d, rfl⟩
  go_wp2_with fail
  go_ret
  exact ⟨rfl, d, rfl⟩
end Go.Proofs.YtlhhcocdhkbdnaaDoor.Gr

set_option linter.unusedVariables false
set_option linter.unusedSimpArgs false
set_option maxRecDepth 100000
namespace Go.Proofs.YtlhhcocdhkbdnaaDoor.Gr
open Go.RowKit Go.Proofs.YtlhhcocdhkbdnaaDoor.Wd Go.Proofs.YtlhhcocdhkbdnaaDoor.Hp Go.Proofs.YtlhhcocdhkbdnaaDoor.Gp Go.Proofs.YtlhhcocdhkbdnaaDoor.Sm
theorem infoIntL : (Tryd.prog.info? 3).map (fun i => (i.zero, i.size, i.bytes)) = some (some (.int .i64 0), 1, 8) := by kernel_rfl
theorem run_make_intl (w : World) (n : Nat) (h : n ≤ 1000000) : (Instr.makeSlice 50 (.int .i64 0) (.int .i64 ((n : Int) + 2))).run Tryd.prog w = .ok (.slice (some ⟨w.heap.size, 0, none⟩) 0 (n + 2)) (w.alloc (.cells (ints .i64 (List.replicate (n + 2) 0)).toArray 3)) := by
  obtain ⟨i, hi, he⟩ := Option.map_eq_some_iff.1 infoIntL
  simp only [Prod.mk.injEq] at he
  obtain ⟨e1, e2, e3⟩ := he
  have := run_make (P := Tryd.prog) w 50 3 i _ Tryd.underlying50 hi e1 .i64 .i64 0 ((n : Int) + 2) (by omega) (by omega) (by rw [e3]; omega) (by omega)
  rw [this, e2]
  have e4 : (Value.int .i64 0).cells = #[.int .i64 0] := rfl
  rw [e4, Nat.mul_one, made_one, show ((n : Int) + 2).toNat = n + 2 by omega, show ints .i64 (List.replicate (n + 2) 0) = List.replicate (n + 2) (.int .i64 0) by simp [ints]]
  rfl
/-- A list of n ints in a block of its own, with two marks behind it. -/
def LentIs (w : World) (q : Nat) (ws : List Int) : Prop := w.heap[q]? = some (.cells (ints .i64 (ws ++ [-771, -772])).toArray 3 (0, 0))
set_option maxHeartbeats 1000000 in
theorem LentInts_any (w : World) (ao : Option Addr) (n cn : Nat) (ws : List Int) (hn : n ≤ 1000000) (hr : RdF w ao n (ints .i64 ws) []) :
    Calls Tryd.prog 60 #[.slice ao n cn] w fun e w' => ∃ q, e = .returned (.slice (some ⟨q, 0, none⟩) n (n + 2)) ∧ LentIs w' q ws ∧ Ch [] w w' ∧ w.heap.size ≤ q := by
  have hl : ws.length = n := by simpa [ints] using hr.1
  have hmk : ∀ w : World, _ := fun w => run_make_intl w n hn
  obtain ⟨i0, hi, he⟩ := Option.map_eq_some_iff.1 infoIntL
  simp only [Prod.mk.injEq] at he
  obtain ⟨hz0, hz1, hz2⟩ := he
  have HR := Lib.hid hr
  have HL := Lib.hid hl
  have HB0 := Lib.hid (heap_new w (.cells (ints .i64 (List.replicate (n + 2) 0)).toArray 3))
  have HC0 := Lib.hid ((Ch.refl [] w).alloc (.cells (ints .i64 (List.replicate (n + 2) 0)).toArray 3))
  clear hr hl
  by_cases h0 : n = 0
  · subst h0
    obtain rfl : ws = [] := List.eq_nil_of_length_eq_zero HL.out
    have hmk0 : ∀ w : World, (Instr.makeSlice 50 (.int .i64 0) (.int .i64 2)).run Tryd.prog w = .ok (.slice (some ⟨w.heap.size, 0, none⟩) 0 2) (w.alloc (.cells (ints .i64 (List.replicate (0 + 2) 0)).toArray 3)) := fun w => hmk w
    have HB1 := Lib.hid (heap_old (o' := .cells #[.int .i64 (-771), .int .i64 (-772)] 3) HB0.out)
    have HN1 := Lib.hid (newL (w := w.alloc (.cells (ints .i64 (List.replicate (0 + 2) 0)).toArray 3)) (b := w.heap.size + 1) (by simp) [.int .i64 (-771), .int .i64 (-772)] 3)
    clear hmk
    go_enter Tryd.func60, Tryd.ntmps60
    go_wp2_with (at_builtin; first | (refine wpList_append_none _ rfl _ _ 50 rfl 3 i0 Tryd.underlying50 hi w.heap.size 0 2 rfl cn ao rfl (by omega) ?_) | (go_loud (refine wpList_append_room _ rfl _ _ 50 rfl 3 i0 1 Tryd.underlying50 hi hz1 w.heap.size 0 2 rfl _ HB1.out (by simp [ints]) ⟨w.heap.size + 1, 0, none⟩ 2 2 [.int .i64 (-771), .int .i64 (-772)] rfl rfl HN1.out (one2 _ _ _ _) (by omega) ?_)))
    intro w2 arr2 k1 k2 k4 k5
    have K := Lib.hid (And.intro k1 (And.intro k2 (And.intro k4 k5)))
    clear k1 k2 k4 k5
    go_wp2_with fail
    go_ret
    obtain ⟨k1, k2, k4, k5⟩ := K.out
    refine ⟨w.heap.size, rfl, ?_, ?_, Nat.le_refl _⟩
    · unfold LentIs
      rw [k1]
      congr 2
      apply Array.ext_getElem?
      intro j
      have hsz2 : arr2.size = 2 := by rw [k2]; rfl
      rcases Nat.lt_or_ge j 2 with h | h
      · rw [k4 j h]
        rcases (by omega : j = 0 ∨ j = 1) with rfl | rfl <;> rfl
      · rw [Array.getElem?_eq_none (by omega), Array.getElem?_eq_none (by simp [ints]; omega)]
    · exact (((Ch.refl [] w).alloc _).alloc _).trans k5 (fun x hx => by simp at hx; subst hx; exact .inr (Nat.le_refl _))
  · obtain ⟨b, off, rfl, hbn, hj⟩ := HR.out.2.resolve_left h0
    have HSRC : Hid (∀ (j : Nat) (u : Value), (ints .i64 ws)[j]? = some u → (w.alloc (.cells (ints .i64 (List.replicate (n + 2) 0)).toArray 3)).cell? ((⟨b, off, none⟩ : Addr).add j) = some u) := Lib.hid (fun j u hu => by
      have hlt : j < n := by
        rcases Nat.lt_or_ge j n with h | h
        · exact h
        · rw [List.getElem?_eq_none (by rw [HR.out.1]; exact h)] at hu; cases hu
      rw [Addr.add_lit]
      exact HC0.out.cell ((hj j hlt).trans hu) (by simp))
    have H1C : Hid (∀ u ∈ ints .i64 ws, u.oneCell' = true) := Lib.hid (fun u hu => by simp [ints] at hu; obtain ⟨v, _, rfl⟩ := hu; rfl)
    have HLEN : Hid ((ints .i64 ws).length = n * 1) := Lib.hid (by rw [HR.out.1, Nat.mul_one])
    clear hj hbn
    go_enter Tryd.func60, Tryd.ntmps60
    go_wp2_with (at_builtin; go_loud (refine wpList_append_room _ rfl _ _ 50 rfl 3 i0 1 Tryd.underlying50 hi hz1 w.heap.size 0 (n + 2) rfl _ HB0.out (by simp [ints]) ⟨b, off, none⟩ n cn (ints .i64 ws) rfl HLEN.out HSRC.out H1C.out (by omega) ?_))
    intro w1 arr1 g1 g2 g4 g5
    have M1 : Ch [] w1 (w1.alloc (.cells #[.int .i64 (-771), .int .i64 (-772)] 3)) := (Ch.refl _ _).alloc _
    have HB1 := Lib.hid (M1.heap g1 (by simp))
    have hs1 : arr1.size = (n + 2) * 1 := by rw [g2]; simp [ints]
    have HS1 := Lib.hid hs1
    have HN1 := Lib.hid (newL (w := w1) (b := w1.heap.size) rfl [.int .i64 (-771), .int .i64 (-772)] 3)
    have HCW : Hid (Ch [] w w1) := Lib.hid (HC0.out.trans g5 (fun x hx => by simp at hx; subst hx; exact .inr (Nat.le_refl _)))
    have G4 := Lib.hid g4
    clear g1 g2 g4 g5 hs1 M1
    go_wp2_with (at_builtin; go_loud (refine wpList_append_room _ rfl _ _ 50 rfl 3 i0 1 Tryd.underlying50 hi hz1 w.heap.size n (n + 2) rfl _ HB1.out HS1.out ⟨w1.heap.size, 0, none⟩ 2 2 [.int .i64 (-771), .int .i64 (-772)] rfl rfl HN1.out (one2 _ _ _ _) (by omega) ?_))
    intro w2 arr2 k1 k2 k3 k4 k5
    have K := Lib.hid (And.intro k1 (And.intro k2 (And.intro k3 (And.intro k4 k5))))
    clear k1 k2 k3 k4 k5
    go_wp2_with fail
    go_ret
    obtain ⟨k1, k2, k3, k4, k5⟩ := K.out
    refine ⟨w.heap.size, rfl, ?_, ?_, Nat.le_refl _⟩
    · unfold LentIs
      rw [k1]
      congr 2
      apply Array.ext_getElem?
      intro j
      have hsz2 : arr2.size = n + 2 := by rw [k2, HS1.out]; omega
      have hll : (ints .i64 ws).length = n := HR.out.1
      rw [show ints .i64 (ws ++ [-771, -772]) = ints .i64 ws ++ [.int .i64 (-771), .int .i64 (-772)] by simp [ints]]
      have e : ∀ L : List Value, L.toArray[j]? = L[j]? := fun L => by simp
      refine Eq.trans ?_ (e _).symm
      rcases Nat.lt_or_ge j n with h | h
      · rw [k3 j (by omega), G4.out j h, List.getElem?_append_left (by omega)]
      · rcases Nat.lt_or_ge j (n + 2) with h2 | h2
        · have := k4 (j - n) (by omega)
          rw [show n + (j - n) = j by omega] at this
          rw [this, List.getElem?_append_right (by omega), hll]
        · rw [Array.getElem?_eq_none (by omega), List.getElem?_eq_none (by rw [List.length_append, hll]; simp; omega)]
    · exact (HCW.out.alloc _).trans k5 (fun x hx => by simp at hx; subst hx; exact .inr (Nat.le_refl _))
theorem LentIs.rd {w : World} {q : Nat} {ws : List Int} (h : LentIs w q ws) : Rd w (some ⟨q, 0, none⟩) ws.length (ints .i64 ws) :=
  ⟨by simp [ints], .inr ⟨q, 0, rfl, fun j hj => by
    rw [Nat.zero_add, cell_at h]
    simp only [ints, List.map_append, List.getElem?_toArray]
    rw [List.getElem?_append_left (by simpa using hj)]⟩⟩
set_option maxHeartbeats 1000000 in
theorem WholeInts_any (w : World) (q : Nat) (bo : Option Addr) (n cm : Nat) (ws : List Int) (hn : n ≤ 1000000) (hcm : n ≤ cm) (hcx : cm ≤ maxLen) (hl : ws.length = n) (h : LentIs w q ws) (hy : Rd w bo n (ints .i64 ws)) :
    Calls Tryd.prog 65 #[.slice (some ⟨q, 0, none⟩) n (n + 2), .slice bo n cm] w fun e w' => e = .returned (.bool true) ∧ ∃ d, w' = w.drewN d := by
  have hrd := h.rd
  rw [hl] at hrd
  have SW := SameInts_any w (some ⟨q, 0, none⟩) bo n (n + 2) n cm ws ws (by omega) (by unfold maxLen; omega) hcm hcx hrd hy
  rw [show decide (ws = ws) = true by simp] at SW
  have m1 : w.cell? ⟨q, n, none⟩ = some (.int .i64 (-771)) := by rw [cell_at h]; simp [ints, ← hl]
  have m2 : w.cell? ⟨q, n + 1, none⟩ = some (.int .i64 (-772)) := by rw [cell_at h]; simp [ints, ← hl]
  clear hrd hl h hy
  go_enter Tryd.func65, Tryd.ntmps65
  go_wp2_with fail
  refine SW.mono ?_
  rintro e w2 ⟨rfl, d, rfl⟩
  go_wp2_with fail
  go_ret
  exact ⟨rfl, d, rfl⟩
end Go.Proofs.YtlhhcocdhkbdnaaDoor.Gr
