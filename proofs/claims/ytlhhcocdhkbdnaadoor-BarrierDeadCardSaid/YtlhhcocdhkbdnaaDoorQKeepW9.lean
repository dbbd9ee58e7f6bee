/-
  THE WALKS of BarrierKeeps, on: a lane's steps (every one; the collector lays a global).
-/
import Derived.Test.YtlhhcocdhkbdnaaDoorQKeepW8
set_option linter.unusedVariables false
set_option linter.unusedSimpArgs false
set_option maxRecDepth 100000
namespace Go.Proofs.YtlhhcocdhkbdnaaDoor.Kp
open Go.RowKit Go.Proofs.YtlhhcocdhkbdnaaDoor.Wd Go.Proofs.YtlhhcocdhkbdnaaDoor.Hp Go.Proofs.YtlhhcocdhkbdnaaDoor.Gp Go.Proofs.YtlhhcocdhkbdnaaDoor.Sm Go.Proofs.YtlhhcocdhkbdnaaDoor.Gr Go.Proofs.YtlhhcocdhkbdnaaDoor.Bp Go.Proofs.YtlhhcocdhkbdnaaDoor.Own
theorem lane_any {w0 w : World} {O : Nat → Nat} {wp : Nat} {a : VA} {v : Vw} (h : WM w0 w O wp a v) (gv : GV v) (hb : Bnd w0) {j : Nat} (hj : j < v.lanes.length) (hen : (v.lanes.getD j ln0).en = false) {q off : Nat} (hal : a.al = some ⟨q, off, none⟩) (s : S5) (hs : SI s) :
    Calls Tryd.prog 79 #[.pointer (some ⟨wp, 0, none⟩), .agg (stA s), .pointer (some ⟨q, off + j * 3, none⟩)] w fun e w' => e = .returned (.bool true) ∧ MW w0 w O w' wp a (laneS v j s) := by
  by_cases h1 : s.kd = 1
  · exact lane1 h gv hb hj hen hal s hs h1
  by_cases h2 : s.kd = 2
  · exact lane2 h gv hb hj hen hal s hs h2
  by_cases h3 : s.kd = 3
  · exact lane3 h gv hb hj hen hal s hs h3
  by_cases h4 : s.kd = 4
  · exact lane4 h gv hb hj hen hal s hs h4
  by_cases h5 : s.kd = 5
  · exact lane5 h gv hb hj hen hal s hs h5
  by_cases h6 : s.kd = 6
  · exact lane6 h gv hb hj hen hal s hs h6
  by_cases h7 : s.kd = 7
  · exact lane7 h gv hb hj hen hal s hs h7
  by_cases h9 : s.kd = 9
  · exact lane9 h gv hb hj hen hal s hs h9
  exact lane0 h gv hb hj hen hal s hs ⟨h1, h2, h3, h4, h5, h6, h7, h9⟩
set_option maxHeartbeats 8000000 in
theorem coll10 {w0 w : World} {O : Nat → Nat} {wp : Nat} {a : VA} {v : Vw} (h : WM w0 w O wp a v) (gv : GV v) (hb : Bnd w0) (s : S5) (hs : SI s) (hk : s.kd = 10) :
    Calls Tryd.prog 76 #[.pointer (some ⟨wp, 0, none⟩), .agg (stA s)] w fun e w' => e = .returned (.bool true) ∧ MW w0 w O w' wp a (collectS v s) := by
  obtain ⟨W, hW⟩ : ∃ W, W = w.alloc (.cells (stA s) 86) := ⟨_, rfl⟩
  have hal1 : Ch [] w W := by rw [hW]; exact (Ch.refl _ _).alloc _
  have H1 := Lib.hid (h.chs hal1)
  have HU1 := Lib.hid (Un.ch (O := O) hal1)
  obtain ⟨bo, hbo⟩ : ∃ bo, bo = w.heap.size := ⟨_, rfl⟩
  have HZ0 : Hid (O bo = 0) := Lib.hid (by rw [hbo]; exact h.fresh (Nat.le_refl _))
  have HBZ : Hid (W.heap[bo]? = some (.cells (stA s) 86 (0, 0))) := Lib.hid (by rw [hbo, hW]; exact heap_new w _)
  have HBO := Lib.hid hbo
  have HG := Lib.hid gv
  have HB := Lib.hid hb
  have HSI := Lib.hid hs
  obtain ⟨V', hV'⟩ : ∃ V', V' = collectS v s := ⟨_, rfl⟩
  rw [← hV']
  have HVV : Hid (V' = rootV v) := Lib.hid (by rw [hV']; unfold collectS; rw [if_pos hk])
  have n10 : (s.kd == 10) = true := by rw [hk]; rfl
  clear hk
  have c4 : W.cell? ⟨wp, 4, none⟩ = some (.slice a.agl v.globals.length a.cgl) := H1.out.wpc 4
  have c5 : W.cell? ⟨wp, 5, none⟩ = some (.int .i64 v.laid) := H1.out.wpc 5
  have hld := gv.mv.laid
  have hngl := gv.ng
  by_cases h0 : v.laid < v.globals.length
  · have HV2 : Hid (V' = shadeV (laidV v) (storeL v.ph false (v.globals.getD v.laid.toNat 0) (v.globals.getD v.laid.toNat 0) v.cells)) := Lib.hid (by rw [HVV.out]; unfold rootV; rw [if_pos h0])
    have hp : v.laid.toNat < v.globals.length := by omega
    obtain ⟨ld, hld2⟩ : ∃ ld : Nat, v.laid = ld := ⟨v.laid.toNat, by omega⟩
    obtain ⟨qg, og, hag, g1, _⟩ := H1.out.glob hp
    have gk := g1 _ hp
    have HUG : Hid (Gp.u64 (v.globals.getD v.laid.toNat 0)) := Lib.hid (gv.ug _ (getD_memD 0 hp))
    rw [hag] at c4
    have HLD := Lib.hid hld2
    rw [show v.laid.toNat = ld by omega] at gk HUG HV2
    rw [hld2] at c5 h0
    have ltL : (ld : Int) < v.globals.length := h0
    have HPC := Lib.hid gv.nc
    have HPG := Lib.hid gv.greyLen
    have HPI := Lib.hid gv.inr
    clear g1 hag hp h0 hld hld2
    generalize v.globals.getD ld 0 = x at *
    generalize v.globals.length = ng at *
    unfold stA
    unfold stA at hW
    clear h gv hs hal1 hbo hb hV'
    go_enter Tryd.func76, Tryd.ntmps76
    go_upto_region 1 with fail
    rw [← hW, ← HBO.out]
    clear hW
    obtain ⟨b0, b1, b2, b3, b4⟩ := st_box HBZ.out
    go_upto_region 3 with fail
    refine wp_region_still_tail 11 (by kernel_rfl) (by kernel_rfl) ?_
    simp only [List.take_succ_cons, List.take_zero, List.drop_succ_cons, List.drop_zero]
    (iterate 11 still_step)
    refine wpStill_nil ?_
    change wpList _ _ _ _ _ W.drew
    have CD : Ch [] W W.drew := (Ch.refl [] W).drew
    have c4' := CD.cell c4 (by simp)
    have c5' := CD.cell c5 (by simp)
    have gk' := CD.cell gk (by simp)
    have H2 := Lib.hid (H1.out.chs CD)
    have HU2 := Lib.hid (HU1.out.trans (Un.ch CD))
    clear c4 c5 gk b0 b1 b2 b3 b4 CD
    generalize W.drew = w2 at *
    go_upto_region 4 with fail
    refine wp_region_still_tail 12 (by kernel_rfl) (by kernel_rfl) ?_
    simp only [List.take_succ_cons, List.take_zero, List.drop_succ_cons, List.drop_zero]
    (iterate 12 still_step)
    refine wpStill_nil ?_
    change wpList _ _ _ _ _ w2.drew
    have CD : Ch [] w2 w2.drew := (Ch.refl [] w2).drew
    have c5 := CD.cell c5' (by simp)
    have H3 := Lib.hid (H2.out.chs CD)
    have HU3 := Lib.hid (HU2.out.trans (Un.ch CD))
    clear c4' c5' gk' CD
    generalize w2.drew = w3 at *
    have f5 : w3.frozen? ⟨wp, 5, none⟩ = false := free_at H3.out.hp
    have L1 := H3.out.laidS ((ld : Int) + 1)
    have HL1 := Lib.hid L1
    have HUL : Hid (Un w O (w3.setCell ⟨wp, 5, none⟩ (.int .i64 ((ld : Int) + 1))) O) := Lib.hid (HU3.out.trans (Un.of ((Ch.refl [wp] w3).setCell _ _ (.inl (by simp))) (fun y hy => by simp at hy; rw [hy, H3.out.o1]; omega) (fun _ _ h => h)))
    clear L1
    go_upto_region 6 with fail
    generalize w3.setCell ⟨wp, 5, none⟩ (.int .i64 ((ld : Int) + 1)) = w4 at *
    have WD := words_any HL1.out HPI.out HPC.out HPG.out x x HUG.out HUG.out HB.out
    clear c5 f5
    go_wp2_with fail
    refine WD.mono ?_
    rintro e w5 ⟨rfl, O5, a5, k1, k2, k3⟩
    have Z : Hid (MW w0 w O w5 wp a V') := Lib.hid (by
      rw [HV2.out]
      unfold laidV
      rw [HLD.out]
      exact ⟨O5, a5, k1, k2, HUL.out.trans k3⟩)
    clear WD k1 k2 k3
    go_wp2_with fail
    go_ret
    exact ⟨rfl, Z.out⟩
  · have HV2 : Hid (V' = v) := Lib.hid (by rw [HVV.out]; unfold rootV; rw [if_neg h0])
    have hlb : (decide (v.laid < (v.globals.length : Int))) = false := by simpa using h0
    generalize v.globals.length = ng at *
    clear h0 hld
    generalize v.laid = ld at *
    unfold stA
    unfold stA at hW
    clear h gv hs hal1 hbo hb hV'
    go_enter Tryd.func76, Tryd.ntmps76
    go_upto_region 1 with fail
    rw [← hW, ← HBO.out]
    clear hW
    obtain ⟨b0, b1, b2, b3, b4⟩ := st_box HBZ.out
    go_upto_region 3 with fail
    refine wp_region_still_tail 11 (by kernel_rfl) (by kernel_rfl) ?_
    simp only [List.take_succ_cons, List.take_zero, List.drop_succ_cons, List.drop_zero]
    (iterate 11 still_step)
    refine wpStill_nil ?_
    change wpList _ _ _ _ _ W.drew
    have CD : Ch [] W W.drew := (Ch.refl [] W).drew
    have H2 := Lib.hid (H1.out.chs CD)
    have HU2 := Lib.hid (HU1.out.trans (Un.ch CD))
    clear c4 c5 b0 b1 b2 b3 b4 CD
    generalize W.drew = w2 at *
    go_wp2_with fail
    go_ret
    exact ⟨rfl, by rw [HV2.out]; exact ⟨O, a, H2.out, SmA.refl a, HU2.out⟩⟩
set_option maxHeartbeats 8000000 in
theorem coll0 {w0 w : World} {O : Nat → Nat} {wp : Nat} {a : VA} {v : Vw} (h : WM w0 w O wp a v) (gv : GV v) (hb : Bnd w0) (s : S5) (hs : SI s) (hk : s.kd ≠ 10 ∧ s.kd ≠ 11 ∧ s.kd ≠ 12) :
    Calls Tryd.prog 76 #[.pointer (some ⟨wp, 0, none⟩), .agg (stA s)] w fun e w' => e = .returned (.bool true) ∧ MW w0 w O w' wp a (collectS v s) := by
  obtain ⟨W, hW⟩ : ∃ W, W = w.alloc (.cells (stA s) 86) := ⟨_, rfl⟩
  have hal1 : Ch [] w W := by rw [hW]; exact (Ch.refl _ _).alloc _
  have H1 := Lib.hid (h.chs hal1)
  have HU1 := Lib.hid (Un.ch (O := O) hal1)
  obtain ⟨bo, hbo⟩ : ∃ bo, bo = w.heap.size := ⟨_, rfl⟩
  have HZ0 : Hid (O bo = 0) := Lib.hid (by rw [hbo]; exact h.fresh (Nat.le_refl _))
  have HBZ : Hid (W.heap[bo]? = some (.cells (stA s) 86 (0, 0))) := Lib.hid (by rw [hbo, hW]; exact heap_new w _)
  have HBO := Lib.hid hbo
  have HG := Lib.hid gv
  have HB := Lib.hid hb
  have HSI := Lib.hid hs
  obtain ⟨V', hV'⟩ : ∃ V', V' = collectS v s := ⟨_, rfl⟩
  rw [← hV']
  have HVV : Hid (V' = v) := Lib.hid (by rw [hV']; unfold collectS; rw [if_neg hk.1, if_neg hk.2.1, if_neg hk.2.2])
  have n10 : (s.kd == 10) = false := beq_eq_false_iff_ne.2 hk.1
  have n11 : (s.kd == 11) = false := beq_eq_false_iff_ne.2 hk.2.1
  have n12 : (s.kd == 12) = false := beq_eq_false_iff_ne.2 hk.2.2
  clear hk
  unfold stA
  unfold stA at hW
  clear h gv hs hal1 hbo hb hV'
  go_enter Tryd.func76, Tryd.ntmps76
  go_upto_region 1 with fail
  rw [← hW, ← HBO.out]
  clear hW
  obtain ⟨b0, b1, b2, b3, b4⟩ := st_box HBZ.out
  go_wp2_with fail
  go_ret
  exact ⟨rfl, by rw [HVV.out]; exact ⟨O, a, H1.out, SmA.refl a, HU1.out⟩⟩
end Go.Proofs.YtlhhcocdhkbdnaaDoor.Kp
