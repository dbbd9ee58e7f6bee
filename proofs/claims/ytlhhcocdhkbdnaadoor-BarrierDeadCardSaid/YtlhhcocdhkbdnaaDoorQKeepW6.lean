/-
  THE WALKS of BarrierKeeps, on: a lane's steps (load, global, store, fill, others).
-/
import Derived.Test.YtlhhcocdhkbdnaaDoorQKeepW5
set_option linter.unusedVariables false
set_option linter.unusedSimpArgs false
set_option maxRecDepth 100000
namespace Go.Proofs.YtlhhcocdhkbdnaaDoor.Kp
open Go.RowKit Go.Proofs.YtlhhcocdhkbdnaaDoor.Wd Go.Proofs.YtlhhcocdhkbdnaaDoor.Hp Go.Proofs.YtlhhcocdhkbdnaaDoor.Gp Go.Proofs.YtlhhcocdhkbdnaaDoor.Sm Go.Proofs.YtlhhcocdhkbdnaaDoor.Gr Go.Proofs.YtlhhcocdhkbdnaaDoor.Bp Go.Proofs.YtlhhcocdhkbdnaaDoor.Own
set_option maxHeartbeats 8000000 in
theorem lane1 {w0 w : World} {O : Nat → Nat} {wp : Nat} {a : VA} {v : Vw} (h : WM w0 w O wp a v) (gv : GV v) (hb : Bnd w0) {j : Nat} (hj : j < v.lanes.length) (hen : (v.lanes.getD j ln0).en = false) {q off : Nat} (hal : a.al = some ⟨q, off, none⟩) (s : S5) (hs : SI s) (hk : s.kd = 1) :
    Calls Tryd.prog 79 #[.pointer (some ⟨wp, 0, none⟩), .agg (stA s), .pointer (some ⟨q, off + j * 3, none⟩)] w fun e w' => e = .returned (.bool true) ∧ MW w0 w O w' wp a (laneS v j s) := by
  obtain ⟨W, hW⟩ : ∃ W, W = w.alloc (.cells (stA s) 86) := ⟨_, rfl⟩
  have hal1 : Ch [] w W := by rw [hW]; exact (Ch.refl _ _).alloc _
  have H1 := Lib.hid (h.chs hal1)
  have HU1 := Lib.hid (Un.ch (O := O) hal1)
  obtain ⟨bo, hbo⟩ : ∃ bo, bo = w.heap.size := ⟨_, rfl⟩
  have HZ0 : Hid (O bo = 0) := Lib.hid (by rw [hbo]; exact h.fresh (Nat.le_refl _))
  have HBZ : Hid (W.heap[bo]? = some (.cells (stA s) 86 (0, 0))) := Lib.hid (by rw [hbo, hW]; exact heap_new w _)
  have HBO := Lib.hid hbo
  have HG := Lib.hid gv
  have HJ := Lib.hid hj
  have HAL := Lib.hid hal
  have HB := Lib.hid hb
  have HSI := Lib.hid hs
  have HEN := Lib.hid hen
  obtain ⟨V', hV'⟩ : ∃ V', V' = laneS v j s := ⟨_, rfl⟩
  rw [← hV']
  have HVV : Hid (V' = loadV v j s) := Lib.hid (by rw [hV']; unfold laneS; rw [if_pos hk])
  have hrn := gv.nr _ (getD_memD ln0 hj)
  have n1 : (s.kd == 1) = true := by rw [hk]; rfl
  clear hk
  have CE := cell_any H1.out gv hj hal s.a hs.a
  rw [celK_some] at CE
  cases hck : celK v (v.lanes.getD j ln0) s.a with
  | none =>
    rw [hck] at CE
    simp only at CE
    have HV2 : Hid (V' = v) := Lib.hid (by rw [HVV.out]; unfold loadV; rw [hck])
    clear hck
    unfold stA
    unfold stA at hW
    clear h gv hj hal hs hal1 hbo hb hV' hen
    go_enter Tryd.func79, Tryd.ntmps79
    go_upto_region 1 with fail
    rw [← hW, ← HBO.out]
    clear hW
    obtain ⟨b0, b1, b2, b3, b4⟩ := st_box HBZ.out
    go_wp2_with fail
    refine CE.mono ?_
    rintro e w2 ⟨rfl, g1⟩
    have Z : Hid (MW w0 w O w2 wp a v) := Lib.hid ⟨O, a, H1.out.chs g1, SmA.refl a, HU1.out.trans (Un.ch g1)⟩
    clear CE g1
    go_wp2_with fail
    go_ret
    exact ⟨rfl, by rw [HV2.out]; exact Z.out⟩
  | some d =>
    rw [hck] at CE
    simp only at CE
    have HV2 : Hid (V' = setL v j (takesK (v.lanes.getD j ln0) (fget (cel v d) (odd s.b)))) := Lib.hid (by rw [HVV.out]; unfold loadV; rw [hck])
    obtain ⟨_, _, _, _, hnf⟩ := cel_ok hck
    have hdl := nofree_lt hnf
    have HD := Lib.hid hdl
    obtain ⟨qc, oc, hac, _⟩ := H1.out.cell hdl
    have HAC := Lib.hid hac
    clear hck hnf hdl hac
    obtain ⟨rr, hrr⟩ : ∃ rr, rr = s.b.tmod 2 := ⟨_, rfl⟩
    have hwr : wrap64 rr = rr := by have := tmod2 s.b; rw [hrr]; unfold wrap64; omega
    have HODD : Hid (odd s.b = (rr != 0)) := Lib.hid (by rw [hrr]; rfl)
    have e0 : s.b.tmod 2 = rr := hrr.symm
    clear hrr
    unfold stA
    unfold stA at hW
    clear h gv hj hal hs hal1 hbo hb hV' hen
    go_enter Tryd.func79, Tryd.ntmps79
    go_upto_region 1 with fail
    rw [← hW, ← HBO.out]
    clear hW
    obtain ⟨b0, b1, b2, b3, b4⟩ := st_box HBZ.out
    go_wp2_with fail
    refine CE.mono ?_
    rintro e w2 ⟨rfl, g1⟩
    have H2 := Lib.hid (H1.out.chs g1)
    have HU2 := Lib.hid (HU1.out.trans (Un.ch g1))
    clear b0 b1 b2 b3 b4
    obtain ⟨_, _, b2, b3, b4⟩ := st_box (g1.heap HBZ.out (by simp))
    obtain ⟨_, _, y2, y3, _⟩ := H2.out.cellF HD.out HAC.out
    have c0 : w2.cell? ⟨wp, 0, none⟩ = some (.slice a.ac v.cells.length a.cc) := H2.out.wpc 0
    rw [HAC.out] at c0
    have ltD : (d : Int) < v.cells.length := by have := HD.out; omega
    have TK := takes_any H2.out HJ.out HAL.out (fget (cel v d) (odd s.b)) hrn
    rw [HODD.out] at TK HV2
    unfold fget at TK HV2
    clear CE g1
    generalize (cel v d).a = ca at *
    generalize (cel v d).b = cb at *
    generalize v.cells.length = nc at *
    by_cases hr0 : rr = 0
    · subst hr0
      simp only [bne_self_eq_false, Bool.false_eq_true, if_false] at TK HV2
      go_wp2_with fail
      refine TK.mono ?_
      rintro e w3 ⟨rfl, O3, a3, k1, k2, k3⟩
      have Z : Hid (MW w0 w O w3 wp a V') := Lib.hid (by rw [HV2.out]; exact ⟨O3, a3, k1, k2, HU2.out.trans k3⟩)
      clear TK k1 k2 k3
      go_wp2_with fail
      go_ret
      exact ⟨rfl, Z.out⟩
    · have e1 : (rr != 0) = true := by simpa using hr0
      have e2 : (rr == 0) = false := by simpa using hr0
      rw [e1] at TK HV2
      simp only [if_true] at TK HV2
      clear hr0
      go_wp2_with fail
      refine TK.mono ?_
      rintro e w3 ⟨rfl, O3, a3, k1, k2, k3⟩
      have Z : Hid (MW w0 w O w3 wp a V') := Lib.hid (by rw [HV2.out]; exact ⟨O3, a3, k1, k2, HU2.out.trans k3⟩)
      clear TK k1 k2 k3
      go_wp2_with fail
      go_ret
      exact ⟨rfl, Z.out⟩
set_option maxHeartbeats 8000000 in
theorem lane2 {w0 w : World} {O : Nat → Nat} {wp : Nat} {a : VA} {v : Vw} (h : WM w0 w O wp a v) (gv : GV v) (hb : Bnd w0) {j : Nat} (hj : j < v.lanes.length) (hen : (v.lanes.getD j ln0).en = false) {q off : Nat} (hal : a.al = some ⟨q, off, none⟩) (s : S5) (hs : SI s) (hk : s.kd = 2) :
    Calls Tryd.prog 79 #[.pointer (some ⟨wp, 0, none⟩), .agg (stA s), .pointer (some ⟨q, off + j * 3, none⟩)] w fun e w' => e = .returned (.bool true) ∧ MW w0 w O w' wp a (laneS v j s) := by
  obtain ⟨W, hW⟩ : ∃ W, W = w.alloc (.cells (stA s) 86) := ⟨_, rfl⟩
  have hal1 : Ch [] w W := by rw [hW]; exact (Ch.refl _ _).alloc _
  have H1 := Lib.hid (h.chs hal1)
  have HU1 := Lib.hid (Un.ch (O := O) hal1)
  obtain ⟨bo, hbo⟩ : ∃ bo, bo = w.heap.size := ⟨_, rfl⟩
  have HZ0 : Hid (O bo = 0) := Lib.hid (by rw [hbo]; exact h.fresh (Nat.le_refl _))
  have HBZ : Hid (W.heap[bo]? = some (.cells (stA s) 86 (0, 0))) := Lib.hid (by rw [hbo, hW]; exact heap_new w _)
  have HBO := Lib.hid hbo
  have HG := Lib.hid gv
  have HJ := Lib.hid hj
  have HAL := Lib.hid hal
  have HB := Lib.hid hb
  have HSI := Lib.hid hs
  have HEN := Lib.hid hen
  obtain ⟨V', hV'⟩ : ∃ V', V' = laneS v j s := ⟨_, rfl⟩
  rw [← hV']
  have HVV : Hid (V' = globV v j s) := Lib.hid (by rw [hV']; unfold laneS; rw [if_neg (by rw [hk]; decide), if_pos hk])
  have hrn := gv.nr _ (getD_memD ln0 hj)
  have n1 : (s.kd == 1) = false := by rw [hk]; rfl
  have n2 : (s.kd == 2) = true := by rw [hk]; rfl
  clear hk
  have c4 : W.cell? ⟨wp, 4, none⟩ = some (.slice a.agl v.globals.length a.cgl) := H1.out.wpc 4
  by_cases h0 : 0 < v.globals.length
  · have HV2 : Hid (V' = setL v j (takesK (v.lanes.getD j ln0) (v.globals.getD (pickN s.a v.globals.length) 0))) := Lib.hid (by rw [HVV.out]; unfold globV; rw [if_pos h0])
    have P := pick_any W.drew s.a v.globals.length hs.a h0 (by have := gv.ng; omega)
    have hp := pick_lt s.a h0
    obtain ⟨qg, og, hag, g1, g2, g3⟩ := H1.out.glob hp
    have gk := g1 _ hp
    rw [hag] at c4
    have H2 := Lib.hid (H1.out.chs ((Ch.refl [] W).drew))
    have HU2 := Lib.hid (HU1.out.trans (Un.ch ((Ch.refl [] W).drew)))
    have TK := takes_any H2.out HJ.out HAL.out (v.globals.getD (pickN s.a v.globals.length) 0) hrn
    have ltP : ((pickN s.a v.globals.length : Nat) : Int) < v.globals.length := by omega
    have lt0 : (0 : Int) < v.globals.length := by omega
    clear g1 g2 g3 hag hp h0
    generalize v.globals.getD (pickN s.a v.globals.length) 0 = x at *
    generalize pickN s.a v.globals.length = k at *
    generalize v.globals.length = ng at *
    unfold stA
    unfold stA at hW
    clear h gv hj hal hs hal1 hbo hb hV' hen
    go_enter Tryd.func79, Tryd.ntmps79
    go_upto_region 1 with fail
    rw [← hW, ← HBO.out]
    clear hW
    obtain ⟨b0, b1, b2, b3, b4⟩ := st_box HBZ.out
    go_wp2_with fail
    refine wp_region_still_tail 17 (by kernel_rfl) (by kernel_rfl) ?_
    simp only [List.take_succ_cons, List.take_zero, List.drop_succ_cons, List.drop_zero]
    (iterate 14 still_step)
    still_call P
    (iterate 2 still_step)
    refine wpStill_nil ?_
    change wpList _ _ _ _ _ W.drew
    clear c4 gk P
    generalize W.drew = w2 at *
    go_wp2_with fail
    refine TK.mono ?_
    rintro e w3 ⟨rfl, O3, a3, k1, k2, k3⟩
    have Z : Hid (MW w0 w O w3 wp a V') := Lib.hid (by rw [HV2.out]; exact ⟨O3, a3, k1, k2, HU2.out.trans k3⟩)
    clear TK k1 k2 k3
    go_wp2_with fail
    go_ret
    exact ⟨rfl, Z.out⟩
  · have HV2 : Hid (V' = v) := Lib.hid (by rw [HVV.out]; unfold globV; rw [if_neg h0])
    have e0 : v.globals.length = 0 := by omega
    rw [e0] at c4
    clear e0 h0
    unfold stA
    unfold stA at hW
    clear h gv hj hal hs hal1 hbo hb hV' hen
    go_enter Tryd.func79, Tryd.ntmps79
    go_upto_region 1 with fail
    rw [← hW, ← HBO.out]
    clear hW
    obtain ⟨b0, b1, b2, b3, b4⟩ := st_box HBZ.out
    go_wp2_with fail
    go_ret
    exact ⟨rfl, by rw [HV2.out]; exact ⟨O, a, H1.out, SmA.refl a, HU1.out⟩⟩
set_option maxHeartbeats 8000000 in
theorem lane3 {w0 w : World} {O : Nat → Nat} {wp : Nat} {a : VA} {v : Vw} (h : WM w0 w O wp a v) (gv : GV v) (hb : Bnd w0) {j : Nat} (hj : j < v.lanes.length) (hen : (v.lanes.getD j ln0).en = false) {q off : Nat} (hal : a.al = some ⟨q, off, none⟩) (s : S5) (hs : SI s) (hk : s.kd = 3) :
    Calls Tryd.prog 79 #[.pointer (some ⟨wp, 0, none⟩), .agg (stA s), .pointer (some ⟨q, off + j * 3, none⟩)] w fun e w' => e = .returned (.bool true) ∧ MW w0 w O w' wp a (laneS v j s) := by
  obtain ⟨W, hW⟩ : ∃ W, W = w.alloc (.cells (stA s) 86) := ⟨_, rfl⟩
  have hal1 : Ch [] w W := by rw [hW]; exact (Ch.refl _ _).alloc _
  have H1 := Lib.hid (h.chs hal1)
  have HU1 := Lib.hid (Un.ch (O := O) hal1)
  obtain ⟨bo, hbo⟩ : ∃ bo, bo = w.heap.size := ⟨_, rfl⟩
  have HZ0 : Hid (O bo = 0) := Lib.hid (by rw [hbo]; exact h.fresh (Nat.le_refl _))
  have HBZ : Hid (W.heap[bo]? = some (.cells (stA s) 86 (0, 0))) := Lib.hid (by rw [hbo, hW]; exact heap_new w _)
  have HBO := Lib.hid hbo
  have HG := Lib.hid gv
  have HJ := Lib.hid hj
  have HAL := Lib.hid hal
  have HB := Lib.hid hb
  have HSI := Lib.hid hs
  have HEN := Lib.hid hen
  obtain ⟨V', hV'⟩ : ∃ V', V' = laneS v j s := ⟨_, rfl⟩
  rw [← hV']
  have HVV : Hid (V' = storeV v j s) := Lib.hid (by rw [hV']; unfold laneS; rw [if_neg (by rw [hk]; decide), if_neg (by rw [hk]; decide), if_pos hk])
  have hrn := gv.nr _ (getD_memD ln0 hj)
  have n1 : (s.kd == 1) = false := by rw [hk]; rfl
  have n2 : (s.kd == 2) = false := by rw [hk]; rfl
  have n3 : (s.kd == 3) = true := by rw [hk]; rfl
  clear hk
  have ST := store_any H1.out gv hb hj hal s hs
  unfold stA at ST
  unfold stA
  unfold stA at hW
  clear h gv hj hal hs hal1 hbo hb hV' hen
  go_enter Tryd.func79, Tryd.ntmps79
  go_upto_region 1 with fail
  rw [← hW, ← HBO.out]
  clear hW
  obtain ⟨b0, b1, b2, b3, b4⟩ := st_box HBZ.out
  go_wp2_with fail
  refine ST.mono ?_
  rintro e w3 ⟨rfl, O3, a3, k1, k2, k3⟩
  have Z : Hid (MW w0 w O w3 wp a V') := Lib.hid (by rw [HVV.out]; exact ⟨O3, a3, k1, k2, HU1.out.trans k3⟩)
  clear ST k1 k2 k3
  go_wp2_with fail
  go_ret
  exact ⟨rfl, Z.out⟩
set_option maxHeartbeats 8000000 in
theorem lane5 {w0 w : World} {O : Nat → Nat} {wp : Nat} {a : VA} {v : Vw} (h : WM w0 w O wp a v) (gv : GV v) (hb : Bnd w0) {j : Nat} (hj : j < v.lanes.length) (hen : (v.lanes.getD j ln0).en = false) {q off : Nat} (hal : a.al = some ⟨q, off, none⟩) (s : S5) (hs : SI s) (hk : s.kd = 5) :
    Calls Tryd.prog 79 #[.pointer (some ⟨wp, 0, none⟩), .agg (stA s), .pointer (some ⟨q, off + j * 3, none⟩)] w fun e w' => e = .returned (.bool true) ∧ MW w0 w O w' wp a (laneS v j s) := by
  obtain ⟨W, hW⟩ : ∃ W, W = w.alloc (.cells (stA s) 86) := ⟨_, rfl⟩
  have hal1 : Ch [] w W := by rw [hW]; exact (Ch.refl _ _).alloc _
  have H1 := Lib.hid (h.chs hal1)
  have HU1 := Lib.hid (Un.ch (O := O) hal1)
  obtain ⟨bo, hbo⟩ : ∃ bo, bo = w.heap.size := ⟨_, rfl⟩
  have HZ0 : Hid (O bo = 0) := Lib.hid (by rw [hbo]; exact h.fresh (Nat.le_refl _))
  have HBZ : Hid (W.heap[bo]? = some (.cells (stA s) 86 (0, 0))) := Lib.hid (by rw [hbo, hW]; exact heap_new w _)
  have HBO := Lib.hid hbo
  have HG := Lib.hid gv
  have HJ := Lib.hid hj
  have HAL := Lib.hid hal
  have HB := Lib.hid hb
  have HSI := Lib.hid hs
  have HEN := Lib.hid hen
  obtain ⟨V', hV'⟩ : ∃ V', V' = laneS v j s := ⟨_, rfl⟩
  rw [← hV']
  have HVV : Hid (V' = fillS v j s) := Lib.hid (by rw [hV']; unfold laneS; rw [if_neg (by rw [hk]; decide), if_neg (by rw [hk]; decide), if_neg (by rw [hk]; decide), if_neg (by rw [hk]; decide), if_pos hk])
  have hrn := gv.nr _ (getD_memD ln0 hj)
  have n1 : (s.kd == 1) = false := by rw [hk]; rfl
  have n2 : (s.kd == 2) = false := by rw [hk]; rfl
  have n3 : (s.kd == 3) = false := by rw [hk]; rfl
  have n4 : (s.kd == 4) = false := by rw [hk]; rfl
  have n5 : (s.kd == 5) = true := by rw [hk]; rfl
  clear hk
  have ST := fill_any H1.out gv hb hj hal s hs
  unfold stA at ST
  unfold stA
  unfold stA at hW
  clear h gv hj hal hs hal1 hbo hb hV' hen
  go_enter Tryd.func79, Tryd.ntmps79
  go_upto_region 1 with fail
  rw [← hW, ← HBO.out]
  clear hW
  obtain ⟨b0, b1, b2, b3, b4⟩ := st_box HBZ.out
  go_wp2_with fail
  refine ST.mono ?_
  rintro e w3 ⟨rfl, O3, a3, k1, k2, k3⟩
  have Z : Hid (MW w0 w O w3 wp a V') := Lib.hid (by rw [HVV.out]; exact ⟨O3, a3, k1, k2, HU1.out.trans k3⟩)
  clear ST k1 k2 k3
  go_wp2_with fail
  go_ret
  exact ⟨rfl, Z.out⟩
set_option maxHeartbeats 8000000 in
theorem lane0 {w0 w : World} {O : Nat → Nat} {wp : Nat} {a : VA} {v : Vw} (h : WM w0 w O wp a v) (gv : GV v) (hb : Bnd w0) {j : Nat} (hj : j < v.lanes.length) (hen : (v.lanes.getD j ln0).en = false) {q off : Nat} (hal : a.al = some ⟨q, off, none⟩) (s : S5) (hs : SI s) (hk : s.kd ≠ 1 ∧ s.kd ≠ 2 ∧ s.kd ≠ 3 ∧ s.kd ≠ 4 ∧ s.kd ≠ 5 ∧ s.kd ≠ 6 ∧ s.kd ≠ 7 ∧ s.kd ≠ 9) :
    Calls Tryd.prog 79 #[.pointer (some ⟨wp, 0, none⟩), .agg (stA s), .pointer (some ⟨q, off + j * 3, none⟩)] w fun e w' => e = .returned (.bool true) ∧ MW w0 w O w' wp a (laneS v j s) := by
  obtain ⟨W, hW⟩ : ∃ W, W = w.alloc (.cells (stA s) 86) := ⟨_, rfl⟩
  have hal1 : Ch [] w W := by rw [hW]; exact (Ch.refl _ _).alloc _
  have H1 := Lib.hid (h.chs hal1)
  have HU1 := Lib.hid (Un.ch (O := O) hal1)
  obtain ⟨bo, hbo⟩ : ∃ bo, bo = w.heap.size := ⟨_, rfl⟩
  have HZ0 : Hid (O bo = 0) := Lib.hid (by rw [hbo]; exact h.fresh (Nat.le_refl _))
  have HBZ : Hid (W.heap[bo]? = some (.cells (stA s) 86 (0, 0))) := Lib.hid (by rw [hbo, hW]; exact heap_new w _)
  have HBO := Lib.hid hbo
  have HG := Lib.hid gv
  have HJ := Lib.hid hj
  have HAL := Lib.hid hal
  have HB := Lib.hid hb
  have HSI := Lib.hid hs
  have HEN := Lib.hid hen
  obtain ⟨V', hV'⟩ : ∃ V', V' = laneS v j s := ⟨_, rfl⟩
  rw [← hV']
  have HVV : Hid (V' = v) := Lib.hid (by rw [hV']; unfold laneS; rw [if_neg hk.1, if_neg hk.2.1, if_neg hk.2.2.1, if_neg hk.2.2.2.1, if_neg hk.2.2.2.2.1, if_neg hk.2.2.2.2.2.1, if_neg hk.2.2.2.2.2.2.1, if_neg hk.2.2.2.2.2.2.2])
  have hrn := gv.nr _ (getD_memD ln0 hj)
  have n1 : (s.kd == 1) = false := beq_eq_false_iff_ne.2 hk.1
  have n2 : (s.kd == 2) = false := beq_eq_false_iff_ne.2 hk.2.1
  have n3 : (s.kd == 3) = false := beq_eq_false_iff_ne.2 hk.2.2.1
  have n4 : (s.kd == 4) = false := beq_eq_false_iff_ne.2 hk.2.2.2.1
  have n5 : (s.kd == 5) = false := beq_eq_false_iff_ne.2 hk.2.2.2.2.1
  have n6 : (s.kd == 6) = false := beq_eq_false_iff_ne.2 hk.2.2.2.2.2.1
  have n7 : (s.kd == 7) = false := beq_eq_false_iff_ne.2 hk.2.2.2.2.2.2.1
  have n9 : (s.kd == 9) = false := beq_eq_false_iff_ne.2 hk.2.2.2.2.2.2.2
  clear hk
  unfold stA
  unfold stA at hW
  clear h gv hj hal hs hal1 hbo hb hV' hen
  go_enter Tryd.func79, Tryd.ntmps79
  go_upto_region 1 with fail
  rw [← hW, ← HBO.out]
  clear hW
  obtain ⟨b0, b1, b2, b3, b4⟩ := st_box HBZ.out
  go_wp2_with fail
  go_ret
  exact ⟨rfl, by rw [HVV.out]; exact ⟨O, a, H1.out, SmA.refl a, HU1.out⟩⟩
end Go.Proofs.YtlhhcocdhkbdnaaDoor.Kp
