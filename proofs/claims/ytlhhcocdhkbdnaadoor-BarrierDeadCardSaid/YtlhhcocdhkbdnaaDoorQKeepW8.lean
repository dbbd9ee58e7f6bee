/-
  THE WALKS of BarrierKeeps, on: a lane's steps (drop, join).
-/
import Derived.Test.YtlhhcocdhkbdnaaDoorQKeepW7
set_option linter.unusedVariables false
set_option linter.unusedSimpArgs false
set_option maxRecDepth 100000
namespace Go.Proofs.YtlhhcocdhkbdnaaDoor.Kp
open Go.RowKit Go.Proofs.YtlhhcocdhkbdnaaDoor.Wd Go.Proofs.YtlhhcocdhkbdnaaDoor.Hp Go.Proofs.YtlhhcocdhkbdnaaDoor.Gp Go.Proofs.YtlhhcocdhkbdnaaDoor.Sm Go.Proofs.YtlhhcocdhkbdnaaDoor.Gr Go.Proofs.YtlhhcocdhkbdnaaDoor.Bp Go.Proofs.YtlhhcocdhkbdnaaDoor.Own
set_option maxHeartbeats 8000000 in
theorem lane6 {w0 w : World} {O : Nat → Nat} {wp : Nat} {a : VA} {v : Vw} (h : WM w0 w O wp a v) (gv : GV v) (hb : Bnd w0) {j : Nat} (hj : j < v.lanes.length) (hen : (v.lanes.getD j ln0).en = false) {q off : Nat} (hal : a.al = some ⟨q, off, none⟩) (s : S5) (hs : SI s) (hk : s.kd = 6) :
    Calls Tryd.prog 79 #[.pointer (some ⟨wp, 0, none⟩), .agg (stA s), .pointer (some ⟨q, off + j * 3, none⟩)] w fun e w' => e = .returned (.bool true) ∧ MW w0 w O w' wp a (laneS v j s) := by
  obtain ⟨W, hW⟩ : ∃ W, W = w.alloc (.cells (stA s) 86) := ⟨_, rfl⟩
  have hal1 : Ch [] w W := by rw [hW]; exact (Ch.refl _ _).alloc _
  have H1 := Lib.hid (h.chs hal1)
  have HU1 := Lib.hid (Un.ch (O := O) hal1)
  obtain ⟨bo, hbo⟩ : ∃ bo, bo = w.heap.size := ⟨_, rfl⟩
  have HZ0 : Hid (O bo = 0) := Lib.hid (by rw [hbo]; exact h.fresh (Nat.le_refl _))
  have HBZ : Hid (W.heap[bo]? = some (.cells (stA s) 86 (0, 0))) := Lib.hid (by rw [hbo, hW]; exact heap_new w _)
  have HBO := Lib.hid hbo
  have HG := Lib.hid gv
  have HJ := Lib.hid hj
  have HAL := Lib.hid hal
  have HB := Lib.hid hb
  have HSI := Lib.hid hs
  have HEN := Lib.hid hen
  obtain ⟨V', hV'⟩ : ∃ V', V' = laneS v j s := ⟨_, rfl⟩
  rw [← hV']
  have HVV : Hid (V' = dropV v j s) := Lib.hid (by rw [hV']; unfold laneS; rw [if_neg (by rw [hk]; decide), if_neg (by rw [hk]; decide), if_neg (by rw [hk]; decide), if_neg (by rw [hk]; decide), if_neg (by rw [hk]; decide), if_pos hk])
  have hrn := gv.nr _ (getD_memD ln0 hj)
  have n1 : (s.kd == 1) = false := by rw [hk]; rfl
  have n2 : (s.kd == 2) = false := by rw [hk]; rfl
  have n3 : (s.kd == 3) = false := by rw [hk]; rfl
  have n4 : (s.kd == 4) = false := by rw [hk]; rfl
  have n5 : (s.kd == 5) = false := by rw [hk]; rfl
  have n6 : (s.kd == 6) = true := by rw [hk]; rfl
  clear hk
  obtain ⟨l0, _, _, lf, lo⟩ := H1.out.laneF HJ.out HAL.out
  by_cases h0 : 0 < (v.lanes.getD j ln0).roots.length
  · have HV2 : Hid (V' = setL v j { v.lanes.getD j ln0 with roots := (v.lanes.getD j ln0).roots.take (pickN s.a (v.lanes.getD j ln0).roots.length) ++ (v.lanes.getD j ln0).roots.drop (pickN s.a (v.lanes.getD j ln0).roots.length + 1) }) := Lib.hid (by rw [HVV.out]; unfold dropV; rw [if_pos h0])
    have P := pick_any W.drew s.a (v.lanes.getD j ln0).roots.length hs.a h0 (by omega)
    have hp := pick_lt s.a h0
    have lt0 : (0 : Int) < (v.lanes.getD j ln0).roots.length := by omega
    have HRD : Hid (Gr.RdF W (a.la j) (v.lanes.getD j ln0).roots.length (ints .u64 (v.lanes.getD j ln0).roots) []) := Lib.hid (H1.out.vm.roots j HJ.out)
    have hcap := (H1.out.rt j HJ.out).rd.2.1
    have HQ5 : Hid (O q = 5) := Lib.hid lo
    have HF := Lib.hid lf
    have HRL : Hid ((v.lanes.getD j ln0).roots.length = (v.lanes.getD j ln0).roots.length) := Lib.hid rfl
    obtain ⟨i0, hi, he⟩ := Option.map_eq_some_iff.1 Gr.infoWord
    simp only [Prod.mk.injEq] at he
    obtain ⟨hz0, hz1, hz2⟩ := he
    have et : Tryd.prog.elem 62 = 24 := by kernel_rfl
    generalize hrr : (v.lanes.getD j ln0).roots = rs at *
    have HRR := Lib.hid hrr
    generalize a.la j = ra at *
    generalize a.lc j = rc at *
    generalize hk : pickN s.a rs.length = k at *
    obtain ⟨so1, sc1, h11, h12, h13⟩ := slice_to (P := Tryd.prog) 62 24 (by rw [et]; exact Tryd.underlying62) et i0 hi hz1 ra rs.length rc k (by omega) hcap
    obtain ⟨so2, sc2, h21, h22, h23⟩ := slice_from (P := Tryd.prog) 62 24 (by rw [et]; exact Tryd.underlying62) et i0 hi hz1 ra rs.length rc (k + 1) (by omega) hcap
    have H13 := Lib.hid (h13 W .u64 rs HRD.out)
    have H23 := Lib.hid (h23 W .u64 rs HRD.out)
    rw [show ((k + 1 : Nat) : Int) = (k : Int) + 1 by omega] at h21 h22
    generalize hn : rs.length = n at *
    have HN := Lib.hid hn
    have H1C1 := Lib.hid (ints_one .u64 (rs.take k))
    have H1C2 := Lib.hid (ints_one .u64 (rs.drop (k + 1)))
    clear h13 h23 lf lo hcap et hrr hk hn h0
    unfold stA
    unfold stA at hW
    clear h gv hj hal hs hal1 hbo hb hV' hen
    go_enter Tryd.func79, Tryd.ntmps79
    go_upto_region 1 with fail
    rw [← hW, ← HBO.out]
    clear hW
    obtain ⟨b0, b1, b2, b3, b4⟩ := st_box HBZ.out
    go_wp2_with fail
    refine wp_region_still_tail 8 (by kernel_rfl) (by kernel_rfl) ?_
    simp only [List.take_succ_cons, List.take_zero, List.drop_succ_cons, List.drop_zero]
    (iterate 7 still_step)
    still_call P
    refine wpStill_nil ?_
    change wpList _ _ _ _ _ W.drew
    have CD : Ch [] W W.drew := (Ch.refl [] W).drew
    have H2 := Lib.hid (H1.out.chs CD)
    have HU2 := Lib.hid (HU1.out.trans (Un.ch CD))
    have l0' : W.drew.cell? ⟨q, off + j * 3, none⟩ = some (.slice ra n rc) := l0
    have R1 := Lib.hid ((H13.out.rd).ch CD)
    have R2 := Lib.hid ((H23.out.rd).ch CD)
    clear l0 P b0 b1 b2 b3 b4 CD
    generalize W.drew = w2 at *
    go_wp2_with (at_builtin; go_loud (refine wpList_append_copy _ rfl _ _ 62 rfl 24 i0 _ 1 8 Tryd.underlying62 hi hz0 hz1 hz2 rfl (by decide) rfl so1 k sc1 rfl (ints .u64 (rs.take k)) (by have := R1.out; rwa [Nat.mul_one]) H1C1.out (by unfold maxLen; omega) (by omega) ?_))
    intro v9 w9 q9 hr9 hc9 hq9
    obtain ⟨ao9, cap9, rfl, _⟩ := hr9.rd
    have l0 := hc9.cell l0' (by simp)
    have HR9 := Lib.hid hr9
    have HC9 := Lib.hid hc9
    have HQ9 := Lib.hid hq9
    have R3 := Lib.hid (R2.out.ch hc9)
    clear hr9 hc9 hq9 l0'
    go_wp2_with (at_builtin; go_loud (refine wpList_append_list _ rfl _ _ 62 rfl 24 i0 _ 1 8 Tryd.underlying62 hi hz0 hz1 hz2 rfl (by decide) rfl HR9.out so2 (n - (k + 1)) sc2 rfl (ints .u64 (rs.drop (k + 1))) (by have := R3.out; rwa [Nat.mul_one]) H1C2.out (by unfold maxLen; omega) (by omega) ?_))
    intro v10 w10 q10 hr10 hc10 hq10
    obtain ⟨ao10, cap10, rfl, _⟩ := hr10.rd
    have c10 : Ch [] w2 w10 := HC9.out.trans hc10 (fun x hx => .inr (by
      rcases HQ9.out with e | ⟨q', e, h1, h2⟩
      · rw [e] at hx; simp at hx
      · rw [e] at hx; simp at hx; omega))
    have hq10' : ∀ y ∈ q10, w2.heap.size ≤ y ∧ y < w10.heap.size := fun y hy => by
      have s1 := HC9.out.size
      have s2 := hc10.size
      rcases hq10 with e | ⟨q', e, h1, h2⟩
      · rw [e] at hy
        rcases HQ9.out with e2 | ⟨q', e2, h1, h2⟩
        · rw [e2] at hy; simp at hy
        · rw [e2] at hy; simp at hy; omega
      · rw [e] at hy; simp at hy; omega
    have el : (rs.take k ++ rs.drop (k + 1)).length = k + (n - (k + 1)) := by rw [List.length_append, List.length_take, List.length_drop, HN.out]; omega
    have hr11 : Row w10 24 1 (.slice ao10 (rs.take k ++ rs.drop (k + 1)).length cap10) q10 (rs.take k ++ rs.drop (k + 1)).length (ints .u64 (rs.take k ++ rs.drop (k + 1))) := by
      rw [el, show ints .u64 (rs.take k ++ rs.drop (k + 1)) = ints .u64 (rs.take k) ++ ints .u64 (rs.drop (k + 1)) by simp [ints]]
      exact hr10
    have L1 := H2.out.laneR HJ.out HAL.out hr11 c10 (by simp) (fun y hy => .inr (hq10' y hy))
    rw [el] at L1
    have Z : Hid (MW w0 w O (w10.setCell ⟨q, off + j * 3, none⟩ (.slice ao10 (k + (n - (k + 1))) cap10)) wp a V') := Lib.hid (by
      rw [HV2.out]
      exact ⟨_, _, L1, ⟨rfl, rfl, rfl, rfl, rfl⟩, HU2.out.trans (Un.of ((c10.mono (T := [q]) (by simp)).setCell _ _ (.inl (by simp))) (fun y hy => by simp at hy; rw [hy, HQ5.out]; omega) (put_un (w1 := w10) (by omega) (fun y hy => .inr (hq10' y hy))))⟩)
    obtain ⟨m0, _, _, mf, _⟩ := (H2.out.chs c10).laneF HJ.out HAL.out
    have f1 : w10.frozen? ⟨q, off + j * 3, none⟩ = false := mf (j * 3)
    clear L1 hr10 hc10 hq10 hr11 c10 hq10' mf l0
    rw [HRR.out, HN.out] at m0
    go_wp2_with fail
    go_ret
    exact ⟨rfl, Z.out⟩
  · have HV2 : Hid (V' = v) := Lib.hid (by rw [HVV.out]; unfold dropV; rw [if_neg h0])
    have e0 : (v.lanes.getD j ln0).roots.length = 0 := by omega
    rw [e0] at l0
    clear e0 h0 lf
    unfold stA
    unfold stA at hW
    clear h gv hj hal hs hal1 hbo hb hV' hen
    go_enter Tryd.func79, Tryd.ntmps79
    go_upto_region 1 with fail
    rw [← hW, ← HBO.out]
    clear hW
    obtain ⟨b0, b1, b2, b3, b4⟩ := st_box HBZ.out
    go_wp2_with fail
    go_ret
    exact ⟨rfl, by rw [HV2.out]; exact ⟨O, a, H1.out, SmA.refl a, HU1.out⟩⟩
set_option maxHeartbeats 8000000 in
theorem lane9 {w0 w : World} {O : Nat → Nat} {wp : Nat} {a : VA} {v : Vw} (h : WM w0 w O wp a v) (gv : GV v) (hb : Bnd w0) {j : Nat} (hj : j < v.lanes.length) (hen : (v.lanes.getD j ln0).en = false) {q off : Nat} (hal : a.al = some ⟨q, off, none⟩) (s : S5) (hs : SI s) (hk : s.kd = 9) :
    Calls Tryd.prog 79 #[.pointer (some ⟨wp, 0, none⟩), .agg (stA s), .pointer (some ⟨q, off + j * 3, none⟩)] w fun e w' => e = .returned (.bool true) ∧ MW w0 w O w' wp a (laneS v j s) := by
  obtain ⟨W, hW⟩ : ∃ W, W = w.alloc (.cells (stA s) 86) := ⟨_, rfl⟩
  have hal1 : Ch [] w W := by rw [hW]; exact (Ch.refl _ _).alloc _
  have H1 := Lib.hid (h.chs hal1)
  have HU1 := Lib.hid (Un.ch (O := O) hal1)
  obtain ⟨bo, hbo⟩ : ∃ bo, bo = w.heap.size := ⟨_, rfl⟩
  have HZ0 : Hid (O bo = 0) := Lib.hid (by rw [hbo]; exact h.fresh (Nat.le_refl _))
  have HBZ : Hid (W.heap[bo]? = some (.cells (stA s) 86 (0, 0))) := Lib.hid (by rw [hbo, hW]; exact heap_new w _)
  have HBO := Lib.hid hbo
  have HG := Lib.hid gv
  have HJ := Lib.hid hj
  have HAL := Lib.hid hal
  have HB := Lib.hid hb
  have HSI := Lib.hid hs
  have HEN := Lib.hid hen
  obtain ⟨V', hV'⟩ : ∃ V', V' = laneS v j s := ⟨_, rfl⟩
  rw [← hV']
  have HVV : Hid (V' = joinV v j s) := Lib.hid (by rw [hV']; unfold laneS; rw [if_neg (by rw [hk]; decide), if_neg (by rw [hk]; decide), if_neg (by rw [hk]; decide), if_neg (by rw [hk]; decide), if_neg (by rw [hk]; decide), if_neg (by rw [hk]; decide), if_neg (by rw [hk]; decide), if_pos hk])
  have hrn := gv.nr _ (getD_memD ln0 hj)
  have n1 : (s.kd == 1) = false := by rw [hk]; rfl
  have n2 : (s.kd == 2) = false := by rw [hk]; rfl
  have n3 : (s.kd == 3) = false := by rw [hk]; rfl
  have n4 : (s.kd == 4) = false := by rw [hk]; rfl
  have n5 : (s.kd == 5) = false := by rw [hk]; rfl
  have n6 : (s.kd == 6) = false := by rw [hk]; rfl
  have n7 : (s.kd == 7) = false := by rw [hk]; rfl
  have n9 : (s.kd == 9) = true := by rw [hk]; rfl
  clear hk
  have c6 : W.cell? ⟨wp, 6, none⟩ = some (.slice a.al v.lanes.length a.cl) := H1.out.wpc 6
  rw [hal] at c6
  have h0 : 0 < v.lanes.length := by omega
  have P := Lib.hid (fun V => pick_any V s.a v.lanes.length HSI.out.a h0 (by have := HG.out.nl; omega))
  have hi := pick_lt s.a h0
  have ltI : ((pickN s.a v.lanes.length : Nat) : Int) < v.lanes.length := by omega
  have HI : Hid (pickN s.a v.lanes.length < v.lanes.length) := Lib.hid hi
  obtain ⟨m0, m1, m2, _, _⟩ := H1.out.laneF hi hal
  have hri := gv.nr _ (getD_memD ln0 hi)
  have HRI := Lib.hid ((H1.out.vm.roots (pickN s.a v.lanes.length) hi).rd)
  have HV2 : Hid (V' = if (v.lanes.getD (pickN s.a v.lanes.length) ln0).en = true ∧ 0 < (v.lanes.getD (pickN s.a v.lanes.length) ln0).roots.length then setL v j (takesK (v.lanes.getD j ln0) ((v.lanes.getD (pickN s.a v.lanes.length) ln0).roots.getD (pickN s.b (v.lanes.getD (pickN s.a v.lanes.length) ln0).roots.length) 0)) else v) := Lib.hid (by rw [HVV.out]; rfl)
  clear h0 hi
  have HJL := HJ
  generalize pickN s.a v.lanes.length = i at *
  generalize hnl : v.lanes.length = nl at *
  have HNL := Lib.hid hnl
  clear hnl
  unfold stA
  unfold stA at hW
  clear h gv hj hal hs hal1 hbo hb hV' hen
  go_enter Tryd.func79, Tryd.ntmps79
  go_upto_region 1 with fail
  rw [← hW, ← HBO.out]
  clear hW
  obtain ⟨b0, b1, b2, b3, b4⟩ := st_box HBZ.out
  generalize hli : v.lanes.getD i ln0 = li at *
  obtain ⟨lr, ls, le⟩ := li
  simp only at *
  go_wp2_with fail
  have HKS : Hid (∀ V, Ch [] W V → V.cell? ⟨wp, 6, none⟩ = some (.slice (some ⟨q, off, none⟩) nl a.cl) ∧ V.cell? ⟨bo, 2, none⟩ = some (.int .i64 s.a) ∧ V.cell? ⟨q, off + i * 3, none⟩ = some (.slice (a.la i) lr.length (a.lc i)) ∧ V.cell? ⟨q, off + i * 3 + 1, none⟩ = some (.bool ls) ∧ V.cell? ⟨q, off + i * 3 + 2, none⟩ = some (.bool le)) := Lib.hid (fun V hV => ⟨hV.cell c6 (by simp), hV.cell b2 (by simp), hV.cell m0 (by simp), hV.cell m1 (by simp), hV.cell m2 (by simp)⟩)
  go_region_held3 (fun w' => w'.cell? ⟨wp, 6, none⟩ = some (.slice (some ⟨q, off, none⟩) nl a.cl) ∧ w'.cell? ⟨bo, 2, none⟩ = some (.int .i64 s.a) ∧ w'.cell? ⟨q, off + i * 3, none⟩ = some (.slice (a.la i) lr.length (a.lc i)) ∧ w'.cell? ⟨q, off + i * 3 + 1, none⟩ = some (.bool ls) ∧ w'.cell? ⟨q, off + i * 3 + 2, none⟩ = some (.bool le)) (refine HKS.out _ ?_ <;> repeat (first | exact Ch.refl _ _ | apply Ch.drew | apply Ch.alloc)) (first | (go_at_call 77; refine (P.out _).mono ?_; rintro e w9 ⟨rfl, rfl⟩))
  all_goals
    have C9 : Ch [] W (W.alloc (.cells #[.slice (a.la i) lr.length (a.lc i), .bool ls, .bool le] 71)).drew := ((Ch.refl [] W).alloc _).drew
    have H9 := Lib.hid (H1.out.chs C9)
    have HU9 := Lib.hid (HU1.out.trans (Un.ch C9))
    have z0 : (W.alloc (.cells #[.slice (a.la i) lr.length (a.lc i), .bool ls, .bool le] 71)).drew.cell? ⟨W.heap.size, 0, none⟩ = some (.slice (a.la i) lr.length (a.lc i)) := (cell_at (heap_new W _)).trans rfl
    have z2 : (W.alloc (.cells #[.slice (a.la i) lr.length (a.lc i), .bool ls, .bool le] 71)).drew.cell? ⟨W.heap.size, 2, none⟩ = some (.bool le) := (cell_at (heap_new W _)).trans rfl
    have b3' := C9.cell b3 (by simp)
    have HRI9 := Lib.hid (HRI.out.ch C9)
    clear c6 m0 m1 m2 b0 b1 b2 b3 b4 HKS P C9
    generalize (W.alloc (.cells #[.slice (a.la i) lr.length (a.lc i), .bool ls, .bool le] 71)).drew = w9 at *
    generalize W.heap.size = ob at *
    cases le with
    | false =>
      have HV3 : Hid (V' = v) := Lib.hid (by rw [HV2.out, if_neg (by simp)])
      generalize lr.length = nr at *
      go_wp2_with fail
      go_ret
      exact ⟨rfl, by rw [HV3.out]; exact ⟨O, a, H9.out, SmA.refl a, HU9.out⟩⟩
    | true =>
      by_cases hl0 : 0 < lr.length
      · have HV3 : Hid (V' = setL v j (takesK (v.lanes.getD j ln0) (lr.getD (pickN s.b lr.length) 0))) := Lib.hid (by rw [HV2.out, if_pos ⟨rfl, hl0⟩])
        have P2 := pick_any w9.drew s.b lr.length HSI.out.b hl0 (by omega)
        have hp := pick_lt s.b hl0
        have ltP : ((pickN s.b lr.length : Nat) : Int) < lr.length := by omega
        have lt0 : (0 : Int) < lr.length := by omega
        obtain ⟨rb, ro, hra, hjj⟩ := HRI9.out.2.resolve_left (by omega)
        have a1 := (hjj _ hp).trans (ints_get hp)
        rw [hra] at z0
        have H10 := Lib.hid (H9.out.chs ((Ch.refl [] w9).drew))
        have HU10 := Lib.hid (HU9.out.trans (Un.ch ((Ch.refl [] w9).drew)))
        have TK := takes_any H10.out (j := j) (by rw [HNL.out]; exact HJ.out) HAL.out (lr.getD (pickN s.b lr.length) 0) hrn
        clear hjj hra hp hl0
        generalize lr.getD (pickN s.b lr.length) 0 = x at *
        generalize pickN s.b lr.length = k at *
        generalize lr.length = nr at *
        go_wp2_with fail
        refine wp_region_still_tail 11 (by kernel_rfl) (by kernel_rfl) ?_
        simp only [List.take_succ_cons, List.take_zero, List.drop_succ_cons, List.drop_zero]
        (iterate 8 still_step)
        still_call P2
        (iterate 2 still_step)
        refine wpStill_nil ?_
        change wpList _ _ _ _ _ w9.drew
        clear z0 z2 b3' a1 P2
        generalize w9.drew = w10 at *
        go_wp2_with fail
        refine TK.mono ?_
        rintro e w3 ⟨rfl, O3, a3, k1, k2, k3⟩
        have Z : Hid (MW w0 w O w3 wp a V') := Lib.hid (by rw [HV3.out]; exact ⟨O3, a3, k1, k2, HU10.out.trans k3⟩)
        clear TK k1 k2 k3
        go_wp2_with fail
        go_ret
        exact ⟨rfl, Z.out⟩
      · have HV3 : Hid (V' = v) := Lib.hid (by rw [HV2.out, if_neg (fun h => hl0 h.2)])
        have e0 : lr.length = 0 := by omega
        rw [e0] at z0
        clear e0 hl0
        go_wp2_with fail
        go_ret
        exact ⟨rfl, by rw [HV3.out]; exact ⟨O, a, H9.out, SmA.refl a, HU9.out⟩⟩
end Go.Proofs.YtlhhcocdhkbdnaaDoor.Kp
