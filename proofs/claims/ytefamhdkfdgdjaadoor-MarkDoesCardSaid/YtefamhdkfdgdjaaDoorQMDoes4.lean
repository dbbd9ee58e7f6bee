/-
  THE WALK of MarkDoes' steps: Turn, Drop, Swap, all cells, others.
-/
import Derived.Test.YtefamhdkfdgdjaaDoorQMDoesP
import Derived.Test.YtefamhdkfdgdjaaDoorQJLentW
import Derived.Deep.RegionHeld3
import Derived.StillTailTactics
set_option linter.unusedVariables false
set_option linter.unusedSimpArgs false
set_option maxRecDepth 100000
namespace Go.Proofs.YtefamhdkfdgdjaaDoor.L15
open Go.RowKit Go.Proofs.YtefamhdkfdgdjaaDoor.Wd Go.Proofs.YtefamhdkfdgdjaaDoor.Hp Go.Proofs.YtefamhdkfdgdjaaDoor.Cp Go.Proofs.YtefamhdkfdgdjaaDoor.Cl Go.Proofs.YtefamhdkfdgdjaaDoor.Mk Go.Proofs.YtefamhdkfdgdjaaDoor.R03 Go.Proofs.YtefamhdkfdgdjaaDoor.R15 Go.Proofs.YtefamhdkfdgdjaaDoor.Sm Go.Proofs.YtefamhdkfdgdjaaDoor.Own Go.Proofs.YtefamhdkfdgdjaaDoor.Gr
set_option maxHeartbeats 8000000 in
theorem step5 {w0 w : World} {O : Nat → Nat} {bp ni mp p s : Nat} {F rq : List Nat} {l : List Cel} {row : List Int} {qp rp rb : Nat} {rq2 : List Nat} (h : DS w0 w O bp ni mp p s F rq l row qp rp rb rq2 l row)
    {aw ac : Option Addr} {nw cw nc cc : Nat} {ws cs : List Int} {ce cC cD ow : Int} (ho : OpI w0 aw nw cw ws ac nc cc cs cC cD ow) (hb0 : Bnd w0) (hrl : row.length ≤ 100000) (hni : ni ≤ 500000) :
    Calls Tryd.prog 9 #[.pointer (some ⟨mp, 0, none⟩), .pointer (some ⟨p, 0, none⟩), .pointer (some ⟨qp, 0, none⟩), .agg (opA 5 aw nw cw ac nc cc ce cC cD ow), .pointer (some ⟨bp, 0, none⟩)] w fun e w' => e = .returned (.bool true) ∧ SP w0 bp ni mp p s qp rp rb row (1 + nw + nc) w' := by
  obtain ⟨W, hW⟩ : ∃ W, W = w.alloc (.cells (opA 5 aw nw cw ac nc cc ce cC cD ow) 31) := ⟨_, rfl⟩
  have hal : Ch [] w W := by rw [hW]; exact (Ch.refl _ _).alloc _
  have D1 := Lib.hid (h.chs hal)
  have HO := Lib.hid ho
  obtain ⟨bo, hbo⟩ : ∃ bo, bo = w.heap.size := ⟨_, rfl⟩
  have HZ0 : Hid (O bo = 0) := Lib.hid (by rw [hbo]; exact h.fresh (Nat.le_refl _))
  have HBZ : Hid (W.heap[bo]? = some (.cells (opA 5 aw nw cw ac nc cc ce cC cD ow) 31 (0, 0))) := Lib.hid (by rw [hbo, hW]; exact heap_new w _)
  have HK : Hid (∀ V : World, V.heap[bo]? = some (.cells (opA 5 aw nw cw ac nc cc ce cC cD ow) 31 (0, 0)) → V.cell? ⟨bo, 3, none⟩ = some (.int .i64 ce) ∧ V.cell? ⟨bo, 4, none⟩ = some (.int .u8 cC) ∧ V.cell? ⟨bo, 5, none⟩ = some (.int .u8 cD) ∧ V.cell? ⟨bo, 6, none⟩ = some (.int .u64 ow)) := Lib.hid (fun V hV => ⟨by rw [cell_at hV]; rfl, by rw [cell_at hV]; rfl, by rw [cell_at hV]; rfl, by rw [cell_at hV]; rfl⟩)
  have HBO := Lib.hid hbo
  unfold opA
  unfold opA at hW
  have TN := Cl.Turn_any W p s F l ce cC cD D1.out.mm.is HO.out.hC.2
  clear h ho hal hbo
  go_enter Tryd.func9, Tryd.ntmps9
  go_wp2_with fail
  rw [← hW, ← HBO.out]
  clear hW
  refine TN.mono ?_
  rintro e w2 ⟨rfl, ht⟩
  obtain ⟨F2, t1, t2, t3⟩ := D1.out.mm.to ht
  have D2 := Lib.hid (D1.out.mark t1 (t2.mono (by simp)) t3 (fun q hq => .inl hq))
  have hT2 : ∀ y ∈ [s], O y ≠ 0 := fun y hy => by simp at hy; rw [hy, D1.out.t1 s (by simp)]; omega
  have HB2 := Lib.hid (t2.heap HBZ.out (un HZ0.out hT2))
  obtain ⟨k3, k4, k5, k6⟩ := HK.out w2 HB2.out
  obtain ⟨vg, g1, _⟩ := D2.out.1.rk.hm
  have m0 := cell_at (i := 0) g1
  simp only [List.getElem?_toArray, List.getElem?_cons_zero, List.getElem?_cons_succ] at m0
  clear TN ht t1 t2 t3 hT2 g1
  generalize put O 1 (F2 ++ rq) = O2 at *
  go_wp2_with fail
  go_still_tail 10, (by kernel_rfl)
  change wpList _ _ _ _ _ w2.drew
  have D3 := Lib.hid (D2.out.1.chs ((Ch.refl [] w2).drew))
  clear k3 k4 k5 k6 m0
  generalize w2.drew = w3 at *
  have RN := R03.Turn_any w3 rp rb l ce cC cD D3.out.rk.rh
  go_wp2_with fail
  refine RN.mono ?_
  rintro e w4 ⟨rfl, u1, u2⟩
  have D4 := Lib.hid (D3.out.ref (D3.out.rk.heap u1 u2) (u2.mono (by simp)) (fun q hq => .inl hq))
  clear RN u1 u2
  go_wp2_with fail
  go_ret
  exact ⟨rfl, _, ni, F2, rq, _, _, rq2, D4.out.1, by omega, by omega⟩
set_option maxHeartbeats 8000000 in
theorem step6 {w0 w : World} {O : Nat → Nat} {bp ni mp p s : Nat} {F rq : List Nat} {l : List Cel} {row : List Int} {qp rp rb : Nat} {rq2 : List Nat} (h : DS w0 w O bp ni mp p s F rq l row qp rp rb rq2 l row)
    {aw ac : Option Addr} {nw cw nc cc : Nat} {ws cs : List Int} {ce cC cD ow : Int} (ho : OpI w0 aw nw cw ws ac nc cc cs cC cD ow) (hb0 : Bnd w0) (hrl : row.length ≤ 100000) (hni : ni ≤ 500000) :
    Calls Tryd.prog 9 #[.pointer (some ⟨mp, 0, none⟩), .pointer (some ⟨p, 0, none⟩), .pointer (some ⟨qp, 0, none⟩), .agg (opA 6 aw nw cw ac nc cc ce cC cD ow), .pointer (some ⟨bp, 0, none⟩)] w fun e w' => e = .returned (.bool true) ∧ SP w0 bp ni mp p s qp rp rb row (1 + nw + nc) w' := by
  obtain ⟨W, hW⟩ : ∃ W, W = w.alloc (.cells (opA 6 aw nw cw ac nc cc ce cC cD ow) 31) := ⟨_, rfl⟩
  have hal : Ch [] w W := by rw [hW]; exact (Ch.refl _ _).alloc _
  have D1 := Lib.hid (h.chs hal)
  have HO := Lib.hid ho
  obtain ⟨bo, hbo⟩ : ∃ bo, bo = w.heap.size := ⟨_, rfl⟩
  have HZ0 : Hid (O bo = 0) := Lib.hid (by rw [hbo]; exact h.fresh (Nat.le_refl _))
  have HBZ : Hid (W.heap[bo]? = some (.cells (opA 6 aw nw cw ac nc cc ce cC cD ow) 31 (0, 0))) := Lib.hid (by rw [hbo, hW]; exact heap_new w _)
  have HK : Hid (∀ V : World, V.heap[bo]? = some (.cells (opA 6 aw nw cw ac nc cc ce cC cD ow) 31 (0, 0)) → V.cell? ⟨bo, 3, none⟩ = some (.int .i64 ce) ∧ V.cell? ⟨bo, 4, none⟩ = some (.int .u8 cC) ∧ V.cell? ⟨bo, 5, none⟩ = some (.int .u8 cD) ∧ V.cell? ⟨bo, 6, none⟩ = some (.int .u64 ow)) := Lib.hid (fun V hV => ⟨by rw [cell_at hV]; rfl, by rw [cell_at hV]; rfl, by rw [cell_at hV]; rfl, by rw [cell_at hV]; rfl⟩)
  have HBO := Lib.hid hbo
  unfold opA
  unfold opA at hW
  have TN := Cl.Drop_any W p s F l ce D1.out.mm.is
  clear h ho hal hbo
  go_enter Tryd.func9, Tryd.ntmps9
  go_wp2_with fail
  rw [← hW, ← HBO.out]
  clear hW
  refine TN.mono ?_
  rintro e w2 ⟨rfl, ht⟩
  obtain ⟨F2, t1, t2, t3⟩ := D1.out.mm.to ht
  have D2 := Lib.hid (D1.out.mark t1 (t2.mono (by simp)) t3 (fun q hq => .inl hq))
  have hT2 : ∀ y ∈ [s], O y ≠ 0 := fun y hy => by simp at hy; rw [hy, D1.out.t1 s (by simp)]; omega
  have HB2 := Lib.hid (t2.heap HBZ.out (un HZ0.out hT2))
  obtain ⟨k3, k4, k5, k6⟩ := HK.out w2 HB2.out
  obtain ⟨vg, g1, _⟩ := D2.out.1.rk.hm
  have m0 := cell_at (i := 0) g1
  simp only [List.getElem?_toArray, List.getElem?_cons_zero, List.getElem?_cons_succ] at m0
  clear TN ht t1 t2 t3 hT2 g1
  generalize put O 1 (F2 ++ rq) = O2 at *
  go_wp2_with fail
  go_still_tail 6, (by kernel_rfl)
  change wpList _ _ _ _ _ w2.drew
  have D3 := Lib.hid (D2.out.1.chs ((Ch.refl [] w2).drew))
  clear k3 k4 k5 k6 m0
  generalize w2.drew = w3 at *
  have RN := R03.Drop_any w3 rp rb l ce D3.out.rk.rh
  go_wp2_with fail
  refine RN.mono ?_
  rintro e w4 ⟨rfl, u1, u2⟩
  have D4 := Lib.hid (D3.out.ref (D3.out.rk.heap u1 u2) (u2.mono (by simp)) (fun q hq => .inl hq))
  clear RN u1 u2
  go_wp2_with fail
  go_ret
  exact ⟨rfl, _, ni, F2, rq, _, _, rq2, D4.out.1, by omega, by omega⟩
set_option maxHeartbeats 8000000 in
theorem step7 {w0 w : World} {O : Nat → Nat} {bp ni mp p s : Nat} {F rq : List Nat} {l : List Cel} {row : List Int} {qp rp rb : Nat} {rq2 : List Nat} (h : DS w0 w O bp ni mp p s F rq l row qp rp rb rq2 l row)
    {aw ac : Option Addr} {nw cw nc cc : Nat} {ws cs : List Int} {ce cC cD ow : Int} (ho : OpI w0 aw nw cw ws ac nc cc cs cC cD ow) (hb0 : Bnd w0) (hrl : row.length ≤ 100000) (hni : ni ≤ 500000) :
    Calls Tryd.prog 9 #[.pointer (some ⟨mp, 0, none⟩), .pointer (some ⟨p, 0, none⟩), .pointer (some ⟨qp, 0, none⟩), .agg (opA 7 aw nw cw ac nc cc ce cC cD ow), .pointer (some ⟨bp, 0, none⟩)] w fun e w' => e = .returned (.bool true) ∧ SP w0 bp ni mp p s qp rp rb row (1 + nw + nc) w' := by
  obtain ⟨W, hW⟩ : ∃ W, W = w.alloc (.cells (opA 7 aw nw cw ac nc cc ce cC cD ow) 31) := ⟨_, rfl⟩
  have hal : Ch [] w W := by rw [hW]; exact (Ch.refl _ _).alloc _
  have D1 := Lib.hid (h.chs hal)
  have HO := Lib.hid ho
  obtain ⟨bo, hbo⟩ : ∃ bo, bo = w.heap.size := ⟨_, rfl⟩
  have HZ0 : Hid (O bo = 0) := Lib.hid (by rw [hbo]; exact h.fresh (Nat.le_refl _))
  have HBZ : Hid (W.heap[bo]? = some (.cells (opA 7 aw nw cw ac nc cc ce cC cD ow) 31 (0, 0))) := Lib.hid (by rw [hbo, hW]; exact heap_new w _)
  have HK : Hid (∀ V : World, V.heap[bo]? = some (.cells (opA 7 aw nw cw ac nc cc ce cC cD ow) 31 (0, 0)) → V.cell? ⟨bo, 3, none⟩ = some (.int .i64 ce) ∧ V.cell? ⟨bo, 4, none⟩ = some (.int .u8 cC) ∧ V.cell? ⟨bo, 5, none⟩ = some (.int .u8 cD) ∧ V.cell? ⟨bo, 6, none⟩ = some (.int .u64 ow)) := Lib.hid (fun V hV => ⟨by rw [cell_at hV]; rfl, by rw [cell_at hV]; rfl, by rw [cell_at hV]; rfl, by rw [cell_at hV]; rfl⟩)
  have HBO := Lib.hid hbo
  unfold opA
  unfold opA at hW
  have TN := Mk.Swap_any W p s F l ce ow D1.out.mm.is HO.out.ho
  clear h ho hal hbo
  go_enter Tryd.func9, Tryd.ntmps9
  go_wp2_with fail
  rw [← hW, ← HBO.out]
  clear hW
  refine TN.mono ?_
  rintro e w2 ⟨⟨y, z, rfl⟩, ht⟩
  obtain ⟨F2, t1, t2, t3⟩ := D1.out.mm.to ht
  have D2 := Lib.hid (D1.out.mark t1 (t2.mono (by simp)) t3 (fun q hq => .inl hq))
  have hT2 : ∀ y ∈ [s], O y ≠ 0 := fun y hy => by simp at hy; rw [hy, D1.out.t1 s (by simp)]; omega
  have HB2 := Lib.hid (t2.heap HBZ.out (un HZ0.out hT2))
  obtain ⟨k3, k4, k5, k6⟩ := HK.out w2 HB2.out
  obtain ⟨vg, g1, _⟩ := D2.out.1.rk.hm
  have m0 := cell_at (i := 0) g1
  simp only [List.getElem?_toArray, List.getElem?_cons_zero, List.getElem?_cons_succ] at m0
  clear TN ht t1 t2 t3 hT2 g1
  generalize put O 1 (F2 ++ rq) = O2 at *
  go_wp2_with fail
  go_still_tail 8, (by kernel_rfl)
  change wpList _ _ _ _ _ w2.drew
  have D3 := Lib.hid (D2.out.1.chs ((Ch.refl [] w2).drew))
  clear k3 k4 k5 k6 m0
  generalize w2.drew = w3 at *
  have RN := R03.Swap_any w3 rp rb l ce ow D3.out.rk.rh
  go_wp2_with fail
  refine RN.mono ?_
  rintro e w4 ⟨⟨y', z', rfl⟩, u1, u2⟩
  have D4 := Lib.hid (D3.out.ref (D3.out.rk.heap u1 u2) (u2.mono (by simp)) (fun q hq => .inl hq))
  clear RN u1 u2
  go_wp2_with fail
  go_ret
  exact ⟨rfl, _, ni, F2, rq, _, _, rq2, D4.out.1, by omega, by omega⟩
end Go.Proofs.YtefamhdkfdgdjaaDoor.L15
