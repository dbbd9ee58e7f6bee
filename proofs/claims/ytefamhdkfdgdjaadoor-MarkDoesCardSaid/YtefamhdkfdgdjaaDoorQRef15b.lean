/-
  THE WALKS of dappleref15's marker: Shade, Scan.
-/
import Derived.Test.YtefamhdkfdgdjaaDoorQRef15
import Derived.Test.YtefamhdkfdgdjaaDoorQRef01
import Derived.Test.YtefamhdkfdgdjaaDoorQMark5
set_option linter.unusedVariables false
set_option linter.unusedSimpArgs false
set_option maxRecDepth 100000
namespace Go.Proofs.YtefamhdkfdgdjaaDoor.R15
open Go.RowKit Go.Proofs.YtefamhdkfdgdjaaDoor.Wd Go.Proofs.YtefamhdkfdgdjaaDoor.Hp Go.Proofs.YtefamhdkfdgdjaaDoor.Sm Go.Proofs.YtefamhdkfdgdjaaDoor.Cp Go.Proofs.YtefamhdkfdgdjaaDoor.Cl Go.Proofs.YtefamhdkfdgdjaaDoor.Mk Go.Proofs.YtefamhdkfdgdjaaDoor.R03
/-- The cells that words name. -/
def cellsOf (ws : List Int) : List Int := (ws.filter (fun x => isRef x)).map cellN
theorem sh_fold (ws : List Int) : ∀ s, (cellsOf ws).foldl lay1 s = ws.foldl sh1 s := by
  induction ws with
  | nil => intro s; rfl
  | cons x ws ih =>
    intro s
    rw [List.foldl_cons, ← ih]
    unfold cellsOf sh1
    cases h : isRef x
    · rw [List.filter_cons_of_neg (by simp [h])]; rfl
    · rw [List.filter_cons_of_pos (by simp [h]), List.map_cons, List.foldl_cons]; rfl
theorem shS_lay (l : List Cel) (ws : List Int) : shS l ws = layS l (cellsOf ws) := (sh_fold ws _).symm
theorem cellsOf_snoc (ws : List Int) (x : Int) : cellsOf (ws ++ [x]) = cellsOf ws ++ (if isRef x = true then [cellN x] else []) := by
  unfold cellsOf
  rw [List.filter_append, List.map_append]
  congr 1
  cases h : isRef x <;> simp [h]
theorem cellsOf_len (ws : List Int) : (cellsOf ws).length ≤ ws.length := by unfold cellsOf; rw [List.length_map]; exact List.length_filter_le _ _
theorem row_rdT {w : World} {e : TypeId} {ao : Option Addr} {n cap : Nat} {qs T : List Nat} {xs : List Value} (h : Row w e 1 (.slice ao n cap) qs n xs) (hT : ∀ q ∈ qs, q ∉ T) : RdT w ao n xs T := by
  obtain ⟨hl, ao', cap', hv, h1, h2, h3, h4⟩ := h
  simp only [Value.slice.injEq, true_and] at hv
  obtain ⟨rfl, rfl⟩ := hv
  refine ⟨by omega, ?_⟩
  rcases h4 with h4 | ⟨q, off, arr, hq, ha, hh, hr, hj⟩
  · left; omega
  · exact .inr ⟨q, off, ha, hT q hq, fun j hlt => (cell_at hh).trans (hj j (by omega))⟩
set_option maxHeartbeats 8000000 in
theorem Shade_any (w : World) (qp rp rb : Nat) (l : List Cel) (row : List Int) (rq : List Nat) (aw : Option Addr) (m cw : Nat) (ws : List Int) (h : RK w qp rp rb l row rq) (hr : Hp.Rd w aw m (ints .u64 ws)) (hn : row.length + m ≤ 4000000) (hu : ∀ x ∈ ws, 0 ≤ x ∧ x < 18446744073709551616) :
    Calls Tryd.prog 26 #[.pointer (some ⟨qp, 0, none⟩), .slice aw m cw] w (RPost w qp rp rb rq (shS l ws).1 (row ++ (shS l ws).2) (shS l ws).2) := by
  have hwl : ws.length = m := by simpa [ints] using hr.1
  obtain ⟨i0, hi, he⟩ := Option.map_eq_some_iff.1 infoInt
  simp only [Prod.mk.injEq] at he
  obtain ⟨hz0, hz1, hz2⟩ := he
  have HM := Lib.hid h
  have HRD := Lib.hid hr
  have HWL := Lib.hid hwl
  have HU := Lib.hid hu
  have HLT := Lib.hid h.lts
  have HN := Lib.hid hn
  have hmn : m ≤ 4000000 := by omega
  obtain ⟨R, hR⟩ : ∃ R, R = RPost w qp rp rb rq (shS l ws).1 (row ++ (shS l ws).2) (shS l ws).2 := ⟨_, rfl⟩
  have HRR := Lib.hid hR
  rw [← hR]
  clear h hr hwl hu hR hn
  go_enter Tryd.func26, Tryd.ntmps26
  go_wp2_with fail
  go_loopw [6, 5] (fun i o wr => ∃ (j : Nat) (oq : List Nat), i = .int .i64 j ∧ j ≤ m ∧ Row wr 3 1 o oq (cellsOf (ws.take j)).length (ints .i64 (cellsOf (ws.take j))) ∧ Ch [] w wr ∧ ∀ q ∈ oq, w.heap.size ≤ q) (fun i _ _ => m - (intOf i).toNat)
  case atStart => exact ⟨0, [], rfl, by omega, Row.nil _ _ _ _, Ch.refl _ _, by simp⟩
  case round =>
    obtain ⟨j, oq, rfl, hj, ho, hc, hq⟩ := hrel
    have HO := Lib.hid ho
    have HC := Lib.hid hc
    have HQ := Lib.hid hq
    obtain ⟨ao2, cap2, rfl, o1, o2, o3⟩ := ho.rd
    have hlo := cellsOf_len (ws.take j)
    rw [List.length_take] at hlo
    by_cases hlt : j < m
    · have hjl : j < ws.length := by rw [HWL.out]; exact hlt
      obtain ⟨b, off, rfl, hjj⟩ := HRD.out.2.resolve_left (by omega)
      have a1 := hc.cell ((hjj j hlt).trans (ints_get hjl)) (by simp)
      have hx := HU.out (ws.getD j 0) (by rw [show ws.getD j 0 = ws[j] by simp [List.getD, hjl]]; exact List.getElem_mem hjl)
      have TK : Hid (cellsOf (ws.take (j + 1)) = cellsOf (ws.take j) ++ (if isRef (ws.getD j 0) = true then [cellN (ws.getD j 0)] else [])) := Lib.hid (by rw [take_snoc ws j 0 hjl, cellsOf_snoc])
      generalize ws.getD j 0 = x at *
      have CC := Rd.Cell_any wr x hx.1 hx.2
      have hrg := cellN_range x
      have ltI : (j : Int) < m := by omega
      clear hjj hjl ho hc hq o3 hx
      generalize cellsOf (ws.take j) = oj at *
      generalize hoL : oj.length = noj at *
      have HOL := Lib.hid hoL
      clear hoL
      cases href : isRef x
      · rw [href] at CC TK
        simp only [Bool.false_eq_true, if_false, List.append_nil] at TK
        clear href hrg
        generalize cellN x = cv at *
        go_wp2_with fail
        refine CC.mono ?_
        rintro e w2 ⟨rfl, rfl⟩
        clear CC
        go_wp2_with fail
        go_roundw
        case rel => exact ⟨j + 1, oq, by go_num, by omega, by rw [TK.out, HOL.out]; exact HO.out, HC.out, HQ.out⟩
        case measure => simp [intOf]; omega
      · rw [href] at CC TK
        simp only [if_true] at TK
        clear href hrg
        generalize cellN x = c at *
        go_wp2_with fail
        refine CC.mono ?_
        rintro e w2 ⟨rfl, rfl⟩
        have CA := Lib.hid ((Ch.refl [] w2).alloc (.cells #[.int .i64 c] 3))
        have HR1 := Lib.hid (HO.out.ch CA.out (by simp))
        have HN1 := Lib.hid (newL (w := w2) (b := w2.heap.size) rfl [.int .i64 c] 3)
        clear CC a1
        go_wp2_with (at_builtin; go_loud (refine wpList_append_row _ rfl _ _ 26 rfl 3 i0 _ 1 8 Tryd.underlying26 hi hz0 hz1 hz2 rfl (by decide) rfl HR1.out ⟨w2.heap.size, 0, none⟩ 1 1 [.int .i64 c] rfl rfl HN1.out (one1 _ _) (by unfold maxLen; omega) (by omega) ?_))
        intro v' w3 oq' hr4 hc4 hq4
        obtain ⟨ao4, cap4, rfl, _⟩ := hr4.rd
        have HR4 := Lib.hid hr4
        have HC4 := Lib.hid hc4
        have HQ4 := Lib.hid hq4
        clear hr4 hc4 hq4
        go_wp2_with fail
        go_roundw
        case rel =>
          have s1 := HC.out.size
          have s2 := CA.out.size
          refine ⟨j + 1, oq', by go_num, by omega, by rw [TK.out, List.length_append, HOL.out, ints_snoc]; exact HR4.out, (HC.out.trans0 CA.out).trans HC4.out (fun q hq => .inr (HQ.out q hq)), fun q hq => ?_⟩
          rcases HQ4.out with e | ⟨q', e, h1, h2⟩
          · rw [e] at hq; exact HQ.out q hq
          · rw [e] at hq; simp at hq; subst hq; omega
        case measure => simp [intOf]; omega
    · obtain rfl : m = j := by omega
      have e1 : ws.take m = ws := List.take_of_length_le (by rw [HWL.out]; exact Nat.le_refl _)
      rw [e1] at HO o1 o3 hlo ⊢
      have hll : (cellsOf ws).length ≤ m := by have := cellsOf_len ws; rw [HWL.out] at this; exact this
      have LA := Lay_any wr qp rp rb l row rq ao2 (cellsOf ws).length cap2 (cellsOf ws) (HM.out.ch0 hc) (row_rdT HO.out (fun q hq1 hm => by
        have h1 := hq q hq1
        have h2 := HLT.out
        rcases List.mem_cons.1 hm with e | hm
        · omega
        · rcases List.mem_cons.1 hm with e | hm
          · omega
          · have := HM.out.rf q hm; omega)) (by have := HN.out; omega)
      rw [← shS_lay] at LA
      have HSZ := Lib.hid hc.size
      clear ho hc hq o3 hlo
      generalize (cellsOf ws).length = nc at *
      go_wp2_with fail
      refine LA.mono ?_
      rintro e w5 ⟨v, qs, rq5, rfl, b1, b2, b3, b4, b5⟩
      obtain ⟨av, cv, rfl, _⟩ := b1.rd
      have Z : Hid (RPost w qp rp rb rq (shS l ws).1 (row ++ (shS l ws).2) (shS l ws).2 (.returned (.slice av (shS l ws).2.length cv)) w5) := Lib.hid (by
        have h1 := HSZ.out
        exact ⟨_, qs, rq5, rfl, b1, b2, (HC.out.mono (by simp)).trans' b3, fun q hq => (b4 q hq).imp id (fun h => by omega), fun q hq => by
          obtain ⟨z1, z2, z3⟩ := b5 q hq
          exact ⟨by omega, z2, z3⟩⟩)
      clear LA b1 b2 b3 b4 b5
      generalize (shS l ws).2.length = no at *
      go_wp2_with fail
      rw [HRR.out]
      exact Z.out
/-- What Scan answers of a list that is not empty. -/
def RScan (w : World) (qp rp rb : Nat) (rq : List Nat) (c : Int) (l' : List Cel) (row' : List Int) (out : List Int) (en : Ending) (w' : World) : Prop :=
  ∃ v qs rq', en = .returned (.tuple #[.int .i64 c, v, .bool true]) ∧ Row w' 3 1 v qs out.length (ints .i64 out) ∧ RK w' qp rp rb l' row' rq' ∧ Ch (qp :: rb :: rq) w w' ∧ (∀ q ∈ rq', q ∈ rq ∨ w.heap.size ≤ q) ∧ ∀ q ∈ qs, w.heap.size ≤ q ∧ q < w'.heap.size ∧ q ∉ rq'
theorem ScanNil_any (w : World) (qp rp rb : Nat) (l : List Cel) (rq : List Nat) (h : RK w qp rp rb l [] rq) :
    Calls Tryd.prog 35 #[.pointer (some ⟨qp, 0, none⟩)] w fun e w' => e = .returned (.tuple #[.int .i64 0, .slice none 0 0, .bool false]) ∧ w' = w := by
  obtain ⟨v, g1, g2⟩ := h.hm
  obtain ⟨av, cv, rfl, _⟩ := g2.rd
  have m0 := cell_at (i := 1) g1
  simp only [List.getElem?_toArray, List.getElem?_cons_zero, List.getElem?_cons_succ, List.length_nil] at m0
  clear h g1 g2
  go_enter Tryd.func35, Tryd.ntmps35
  go_wp2_with fail
  go_ret3
  exact ⟨rfl, rfl⟩
theorem load_both (l : List Cel) (c : Int) : loadE l c 1 = loadE l c 0 := rfl
set_option maxHeartbeats 8000000 in
theorem Scan_any (w : World) (qp rp rb : Nat) (l : List Cel) (c : Int) (row : List Int) (rq : List Nat) (h : RK w qp rp rb l (c :: row) rq) (hok : ∀ x ∈ l, OkC x) (hn : row.length ≤ 3000000) :
    Calls Tryd.prog 35 #[.pointer (some ⟨qp, 0, none⟩)] w (RScan w qp rp rb rq c (scanC l c).1 (row ++ (scanC l c).2) (scanC l c).2) := by
  obtain ⟨v, g1, g2⟩ := h.hm
  obtain ⟨av, cv, rfl, hcv1, hcv2, hrd⟩ := g2.rd
  obtain ⟨i0, hi, he⟩ := Option.map_eq_some_iff.1 infoInt
  simp only [Prod.mk.injEq] at he
  obtain ⟨hz0, hz1, hz2⟩ := he
  have et : Tryd.prog.elem 26 = 3 := by kernel_rfl
  obtain ⟨so, sc, hsl1, hsl2, htail⟩ := slice_tail (P := Tryd.prog) 26 3 (by rw [et]; exact Tryd.underlying26) et i0 hi hz1 w av row.length cv rq (.int .i64 c) (ints .i64 row) g2
  obtain ⟨b, off, rfl, hj⟩ := hrd.2.resolve_left (by simp)
  have a0 : w.cell? ⟨b, off, none⟩ = some (.int .i64 c) := hj 0 (by simp)
  have m0 := cell_at (i := 0) g1
  have m1 := cell_at (i := 1) g1
  have m1f := free_at (i := 1) g1
  simp only [List.getElem?_toArray, List.getElem?_cons_zero, List.getElem?_cons_succ, List.length_cons] at m0 m1
  obtain ⟨w1, hw1⟩ : ∃ w1, w1 = w.setCell ⟨qp, 1, none⟩ (.slice so row.length sc) := ⟨_, rfl⟩
  have M1 := h.row (row' := row) (rq' := rq) (w1 := w) htail (Ch.refl _ _) (.inl rfl)
  rw [← hw1] at M1
  obtain ⟨M1, C1⟩ := M1
  have C1' : Ch [qp] w w1 := by rw [hw1]; exact (Ch.refl _ _).setCell _ _ (.inl (by simp))
  have HM1 := Lib.hid M1
  have HC1 := Lib.hid C1'
  have HOK := Lib.hid hok
  have KM : Hid (∀ W l' row' rq', RK W qp rp rb l' row' rq' → W.cell? ⟨qp, 0, none⟩ = some (.pointer (some ⟨rp, 0, none⟩))) := Lib.hid (fun W l' row' rq' hW => by
    obtain ⟨v2, k1, k2⟩ := hW.hm
    exact cell_at k1)
  have L0 := Load0_any w1 rp rb l c M1.rh
  have L1 := Load1_any w1 rp rb l c M1.rh
  rw [load_both] at L1
  have HLT := Lib.hid h.lts
  have HRQ : Hid (∀ q ∈ rq, q < w.heap.size) := Lib.hid h.rf
  have HU := Lib.hid (loadW_u hok c)
  have hu := HU.out
  obtain ⟨R, hR⟩ : ∃ R, R = RScan w qp rp rb rq c (scanC l c).1 (row ++ (scanC l c).2) (scanC l c).2 := ⟨_, rfl⟩
  have HRR := Lib.hid hR
  rw [← hR]
  have k0 := KM.out w1 l row rq M1
  have HSC : Hid (scanC l c = ((turn (if loadE l c 0 = 0 ∧ loadE l c 1 = 0 then shS l [loadW l c 0, loadW l c 1] else (l, [])).1 c 1 2), (if loadE l c 0 = 0 ∧ loadE l c 1 = 0 then shS l [loadW l c 0, loadW l c 1] else (l, [])).2)) := Lib.hid rfl
  clear g1 g2 hrd htail hj C1 C1' M1 h hok hR hu et
  generalize hnr : row.length = nr at *
  have HNR := Lib.hid hnr
  clear hnr
  go_enter Tryd.func35, Tryd.ntmps35
  go_wp2_with fail
  rw [← hw1]
  clear hsl1 hsl2 hw1 m0 m1 m1f a0
  refine L0.mono ?_
  rintro e w2 ⟨rfl, rfl⟩
  clear L0
  go_wp2_with fail
  refine L1.mono ?_
  rintro e w2 ⟨rfl, rfl⟩
  clear L1
  by_cases hok : loadE l c 0 = 0
  · have HS : Hid (scanC l c = (turn (shS l [loadW l c 0, loadW l c 1]).1 c 1 2, (shS l [loadW l c 0, loadW l c 1]).2)) := Lib.hid (by rw [HSC.out, if_pos ⟨hok, hok⟩])
    rw [hok]
    clear hok
    have CA := Lib.hid ((Ch.refl [] w2).alloc (.cells #[.int .u64 (loadW l c 0), .int .u64 (loadW l c 1)] 29))
    have SH := R15.Shade_any (w2.alloc (.cells #[.int .u64 (loadW l c 0), .int .u64 (loadW l c 1)] 29)) qp rp rb l row rq (some ⟨w2.heap.size, 0, none⟩) 2 2 [loadW l c 0, loadW l c 1] (HM1.out.ch0 CA.out) ⟨rfl, .inr ⟨w2.heap.size, 0, rfl, fun j hj => by
        rw [cell_at (heap_new w2 _)]; simp [ints]⟩⟩ (by rw [HNR.out]; omega) (by intro x hx; simp at hx; rcases hx with rfl | rfl; exact HU.out 0; exact HU.out 1)
    generalize loadW l c 0 = wa at *
    generalize loadW l c 1 = wb at *
    generalize shS l [wa, wb] = st at *
    obtain ⟨l2, out⟩ := st
    simp only at SH HS
    unfold RPost at SH
    go_wp2_with fail
    refine SH.mono ?_
    rintro e w5 ⟨v5, q5, r5, rfl, b1, b2, b3, b5, b6⟩
    obtain ⟨a5, c5, rfl, _⟩ := b1.rd
    have B1 := Lib.hid b1
    have B2 := Lib.hid b2
    have B3 := Lib.hid b3
    have B5 := Lib.hid b5
    have B6 := Lib.hid b6
    have k7 := KM.out w5 _ _ _ b2
    have TN := R03.Turn_any w5 rp rb l2 c 1 2 b2.rh
    generalize turnB l2 c 1 2 = tb at *
    generalize hoL : out.length = no at *
    have HOL := Lib.hid hoL
    clear SH b1 b2 b3 b5 b6 k0 hoL
    go_wp2_with fail
    refine TN.mono ?_
    rintro e w6 ⟨rfl, t1, t2⟩
    have Z : Hid (RScan w qp rp rb rq c (scanC l c).1 (row ++ (scanC l c).2) (scanC l c).2 (.returned (.tuple #[.int .i64 c, .slice a5 no c5, .bool true])) w6) := Lib.hid (by
      have s1 := HC1.out.size
      have s4 := CA.out.size
      have s5 := B3.out.size
      have s6 := t2.size
      have hlt := HLT.out
      rw [HS.out]
      simp only
      refine ⟨_, q5, r5, rfl, by rw [HOL.out]; exact B1.out.ch t2 (fun q hq hm => by simp at hm; subst hm; have := (B6.out q hq).1; omega), B2.out.heap t1 t2, (((HC1.out.mono (by simp)).trans0 CA.out).trans' B3.out).trans t2 (fun q hq => .inl (by simp at hq; subst hq; simp)), fun q hq => ?_, fun q hq => ?_⟩
      · rcases B5.out q hq with h1 | h1
        · exact .inl h1
        · right; omega
      · obtain ⟨z1, z2, z3⟩ := B6.out q hq
        exact ⟨by omega, by omega, z3⟩)
    clear TN t1 t2 k7
    go_wp2_with fail
    go_ret3
    rw [HRR.out]
    exact Z.out
  · have HS : Hid (scanC l c = (turn l c 1 2, [])) := Lib.hid (by rw [HSC.out, if_neg (fun h => hok h.1)])
    have TN := R03.Turn_any w2 rp rb l c 1 2 HM1.out.rh
    generalize turnB l c 1 2 = tb at *
    have HFIN : Hid (∀ w6, RH w6 rp rb (turn l c 1 2) → Ch [rb] w2 w6 → RScan w qp rp rb rq c (scanC l c).1 (row ++ (scanC l c).2) (scanC l c).2 (.returned (.tuple #[.int .i64 c, .slice none 0 0, .bool true])) w6) := Lib.hid (fun w6 t1 t2 => by
      rw [HS.out]
      simp only
      exact ⟨_, [], rq, rfl, Row.nil _ _ _ _, by simpa using HM1.out.heap t1 t2, (HC1.out.mono (by simp)).trans t2 (fun q hq => .inl (by simp at hq; subst hq; simp)), fun q hq => .inl hq, by simp⟩)
    clear HS HSC
    generalize loadW l c 0 = wa at *
    generalize loadW l c 1 = wb at *
    generalize loadE l c 0 = e0 at *
    have h0' : (e0 == 0) = false := by simpa using hok
    clear hok
    go_wp2_with fail
    refine TN.mono ?_
    rintro e w6 ⟨rfl, t1, t2⟩
    have Z := HFIN.out w6 t1 t2
    clear TN t1 t2
    go_wp2_with fail
    go_ret3
    rw [HRR.out]
    exact Z
end Go.Proofs.YtefamhdkfdgdjaaDoor.R15
