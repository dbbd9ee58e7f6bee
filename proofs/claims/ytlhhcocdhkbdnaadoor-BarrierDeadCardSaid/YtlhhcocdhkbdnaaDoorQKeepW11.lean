/-
  THE WALKS of BarrierKeeps, on: a lane's steps (steps).
-/
import Derived.Test.YtlhhcocdhkbdnaaDoorQKeepW10
set_option linter.unusedVariables false
set_option linter.unusedSimpArgs false
set_option maxRecDepth 100000
namespace Go.Proofs.YtlhhcocdhkbdnaaDoor.Kp
open Go.RowKit Go.Proofs.YtlhhcocdhkbdnaaDoor.Wd Go.Proofs.YtlhhcocdhkbdnaaDoor.Hp Go.Proofs.YtlhhcocdhkbdnaaDoor.Gp Go.Proofs.YtlhhcocdhkbdnaaDoor.Sm Go.Proofs.YtlhhcocdhkbdnaaDoor.Gr Go.Proofs.YtlhhcocdhkbdnaaDoor.Bp Go.Proofs.YtlhhcocdhkbdnaaDoor.Own
theorem rootsN_le : ∀ (l : List Ln), (∀ x ∈ l, x.roots.length ≤ 1000) → rootsN l ≤ 1000 * l.length
  | [], _ => by simp [rootsN]
  | x :: l, h => by
    have h1 := rootsN_le l (fun y hy => h y (by simp [hy]))
    have h2 := h x (by simp)
    have e : rootsN (x :: l) = x.roots.length + rootsN l := by simp [rootsN]
    rw [e, List.length_cons]; omega
theorem GV.vr {v : Vw} (h : GV v) : VR v := by
  have hl := rootsN_le v.lanes h.nr
  have hn := h.nl
  have hng := h.ng
  have hnc := h.nc
  have hgr := h.greyLen
  have hld := h.mv.laid
  have hsw := h.mv.sw
  exact ⟨h.inr, by rcases h.mv.ph with e | e <;> rw [e] <;> omega, by omega, by omega, fun x hx => by have := h.mv.gin x hx; omega, h.ug, h.ur, by omega, by omega, by omega, by omega, by omega⟩
/-- What a step leaves. -/
def MX (w0 w : World) (O : Nat → Nat) (w' : World) (wp : Nat) (v' : Vw) : Prop := ∃ O' a', WM w0 w' O' wp a' v' ∧ Un w O w' O'
theorem holds_any {w0 w : World} {O : Nat → Nat} {wp : Nat} {a : VA} {v : Vw} (h : WM w0 w O wp a v) (gv : GV v) (hb : Bnd w0) :
    Calls Tryd.prog 28 #[.agg (a.arr v)] w fun e w' => e = .returned (.tuple #[.bool true, .int .i64 (holdsI v : Nat), .int .i64 0]) ∧ Ch [] w w' := by
  have := Holds_any w a v (Bnd.ch hb h.g.ch (by simp)) h.vm gv.vr
  obtain ⟨e1, e2⟩ := holds_of gv.mv gv.inr gv.k2
  rw [e1, e2] at this
  exact this
set_option maxHeartbeats 8000000 in
theorem stepA {w0 w : World} {O : Nat → Nat} {wp : Nat} {a : VA} {v : Vw} (h : WM w0 w O wp a v) (gv : GV v) (hb : Bnd w0) (s : S5) (hs : SI s) (hk : 10 ≤ s.kd) :
    Calls Tryd.prog 31 #[.pointer (some ⟨wp, 0, none⟩), .agg (stA s)] w fun e w' => e = .returned (.bool true) ∧ MX w0 w O w' wp (stepS v s) := by
  obtain ⟨W, hW⟩ : ∃ W, W = w.alloc (.cells (stA s) 86) := ⟨_, rfl⟩
  have hal1 : Ch [] w W := by rw [hW]; exact (Ch.refl _ _).alloc _
  have H1 := Lib.hid (h.chs hal1)
  have HU1 := Lib.hid (Un.ch (O := O) hal1)
  obtain ⟨bo, hbo⟩ : ∃ bo, bo = w.heap.size := ⟨_, rfl⟩
  have HZ0 : Hid (O bo = 0) := Lib.hid (by rw [hbo]; exact h.fresh (Nat.le_refl _))
  have HBZ : Hid (W.heap[bo]? = some (.cells (stA s) 86 (0, 0))) := Lib.hid (by rw [hbo, hW]; exact heap_new w _)
  have HBO := Lib.hid hbo
  have HG := Lib.hid gv
  have HB := Lib.hid hb
  have HSI := Lib.hid hs
  obtain ⟨V', hV'⟩ : ∃ V', V' = stepS v s := ⟨_, rfl⟩
  rw [← hV']
  have HVV : Hid (V' = collectS v s) := Lib.hid (by rw [hV']; unfold stepS; rw [if_pos hk])
  have HGS : Hid (GV V') := Lib.hid (by rw [hV']; exact step_gv gv s)
  have hnl := gv.nl
  have CO := collect_any H1.out HG.out hb s hs
  unfold stA at CO
  unfold stA
  unfold stA at hW
  clear h gv hs hal1 hbo hb hV'
  go_enter Tryd.func31, Tryd.ntmps31
  go_upto_region 1 with fail
  rw [← hW, ← HBO.out]
  clear hW
  obtain ⟨b0, b1, b2, b3, b4⟩ := st_box HBZ.out
  have c6 : W.cell? ⟨wp, 6, none⟩ = some (.slice a.al v.lanes.length a.cl) := H1.out.wpc 6
  go_wp2_with fail
  refine CO.mono ?_
  rintro e w5 ⟨rfl, O5, a5, k1, k2, k3⟩
  have K1 : Hid (WM w0 w5 O5 wp a5 V') := Lib.hid (by rw [HVV.out]; exact k1)
  have K3 := Lib.hid (HU1.out.trans k3)
  clear CO k1 k2 k3 b0 b1 b2 b3 b4 c6
  have HO := holds_any K1.out HGS.out HB.out
  have p0 : w5.cell? ⟨wp, 0, none⟩ = some (.slice a5.ac V'.cells.length a5.cc) := K1.out.wpc 0
  have p1 : w5.cell? ⟨wp, 1, none⟩ = some (.int .u8 V'.ph) := K1.out.wpc 1
  have p2 : w5.cell? ⟨wp, 2, none⟩ = some (.int .i64 V'.sw) := K1.out.wpc 2
  have p3 : w5.cell? ⟨wp, 3, none⟩ = some (.slice a5.ag V'.grey.length a5.cg) := K1.out.wpc 3
  have p4 : w5.cell? ⟨wp, 4, none⟩ = some (.slice a5.agl V'.globals.length a5.cgl) := K1.out.wpc 4
  have p5 : w5.cell? ⟨wp, 5, none⟩ = some (.int .i64 V'.laid) := K1.out.wpc 5
  have p6 : w5.cell? ⟨wp, 6, none⟩ = some (.slice a5.al V'.lanes.length a5.cl) := K1.out.wpc 6
  unfold VA.arr at HO
  have HZ : Hid (∀ W6, Ch [] w5 W6 → MX w0 w O W6 wp V') := Lib.hid (fun W6 h6 => ⟨O5, a5, K1.out.chs h6, K3.out.trans (Un.ch h6)⟩)
  generalize holdsI V' = hI at *
  generalize V'.cells.length = t0 at *
  generalize V'.grey.length = t3 at *
  generalize V'.globals.length = t4 at *
  generalize V'.lanes.length = t6 at *
  go_wp2_with fail
  refine HO.mono ?_
  rintro e w6 ⟨rfl, c7⟩
  have Z := HZ.out w6 c7
  clear HO p0 p1 p2 p3 p4 p5 p6 c7
  go_wp2_with fail
  go_ret
  exact ⟨rfl, Z⟩
set_option maxHeartbeats 8000000 in
theorem stepB {w0 w : World} {O : Nat → Nat} {wp : Nat} {a : VA} {v : Vw} (h : WM w0 w O wp a v) (gv : GV v) (hb : Bnd w0) (s : S5) (hs : SI s) (hk : s.kd < 10) (h0 : v.lanes.length = 0) :
    Calls Tryd.prog 31 #[.pointer (some ⟨wp, 0, none⟩), .agg (stA s)] w fun e w' => e = .returned (.bool true) ∧ MX w0 w O w' wp (stepS v s) := by
  obtain ⟨W, hW⟩ : ∃ W, W = w.alloc (.cells (stA s) 86) := ⟨_, rfl⟩
  have hal1 : Ch [] w W := by rw [hW]; exact (Ch.refl _ _).alloc _
  have H1 := Lib.hid (h.chs hal1)
  have HU1 := Lib.hid (Un.ch (O := O) hal1)
  obtain ⟨bo, hbo⟩ : ∃ bo, bo = w.heap.size := ⟨_, rfl⟩
  have HZ0 : Hid (O bo = 0) := Lib.hid (by rw [hbo]; exact h.fresh (Nat.le_refl _))
  have HBZ : Hid (W.heap[bo]? = some (.cells (stA s) 86 (0, 0))) := Lib.hid (by rw [hbo, hW]; exact heap_new w _)
  have HBO := Lib.hid hbo
  have HG := Lib.hid gv
  have HB := Lib.hid hb
  have HSI := Lib.hid hs
  obtain ⟨V', hV'⟩ : ∃ V', V' = stepS v s := ⟨_, rfl⟩
  rw [← hV']
  have HVV : Hid (V' = v) := Lib.hid (by rw [hV']; unfold stepS; rw [if_neg (by omega), if_pos h0])
  have HGS : Hid (GV V') := Lib.hid (by rw [hV']; exact step_gv gv s)
  have hnl := gv.nl
  have hk' : (decide ((10 : Int) ≤ s.kd)) = false := by simp; omega
  clear hk
  unfold stA
  unfold stA at hW
  clear h gv hs hal1 hbo hb hV'
  go_enter Tryd.func31, Tryd.ntmps31
  go_upto_region 1 with fail
  rw [← hW, ← HBO.out]
  clear hW
  obtain ⟨b0, b1, b2, b3, b4⟩ := st_box HBZ.out
  have c6 : W.cell? ⟨wp, 6, none⟩ = some (.slice a.al v.lanes.length a.cl) := H1.out.wpc 6
  rw [h0] at c6
  go_wp2_with fail
  go_ret
  exact ⟨rfl, by rw [HVV.out]; exact ⟨O, a, H1.out, HU1.out⟩⟩
set_option maxHeartbeats 8000000 in
theorem stepC {w0 w : World} {O : Nat → Nat} {wp : Nat} {a : VA} {v : Vw} (h : WM w0 w O wp a v) (gv : GV v) (hb : Bnd w0) (s : S5) (hs : SI s) (hk : s.kd < 10) (h0 : 0 < v.lanes.length) (hen : (v.lanes.getD (pickN s.who v.lanes.length) ln0).en = true) :
    Calls Tryd.prog 31 #[.pointer (some ⟨wp, 0, none⟩), .agg (stA s)] w fun e w' => e = .returned (.bool true) ∧ MX w0 w O w' wp (stepS v s) := by
  obtain ⟨W, hW⟩ : ∃ W, W = w.alloc (.cells (stA s) 86) := ⟨_, rfl⟩
  have hal1 : Ch [] w W := by rw [hW]; exact (Ch.refl _ _).alloc _
  have H1 := Lib.hid (h.chs hal1)
  have HU1 := Lib.hid (Un.ch (O := O) hal1)
  obtain ⟨bo, hbo⟩ : ∃ bo, bo = w.heap.size := ⟨_, rfl⟩
  have HZ0 : Hid (O bo = 0) := Lib.hid (by rw [hbo]; exact h.fresh (Nat.le_refl _))
  have HBZ : Hid (W.heap[bo]? = some (.cells (stA s) 86 (0, 0))) := Lib.hid (by rw [hbo, hW]; exact heap_new w _)
  have HBO := Lib.hid hbo
  have HG := Lib.hid gv
  have HB := Lib.hid hb
  have HSI := Lib.hid hs
  obtain ⟨V', hV'⟩ : ∃ V', V' = stepS v s := ⟨_, rfl⟩
  rw [← hV']
  have HVV : Hid (V' = v) := Lib.hid (by rw [hV']; unfold stepS; rw [if_neg (by omega), if_neg (by omega), if_pos hen])
  have HGS : Hid (GV V') := Lib.hid (by rw [hV']; exact step_gv gv s)
  have hnl := gv.nl
  have hk' : (decide ((10 : Int) ≤ s.kd)) = false := by simp; omega
  have hj := pick_lt s.who h0
  have P := pick_any W.drew s.who v.lanes.length hs.who h0 (by have := gv.nl; omega)
  obtain ⟨q, off, hal, _⟩ := H1.out.lane hj
  have HAL := Lib.hid hal
  have HJ := Lib.hid hj
  obtain ⟨l0, l1, l2, _, _⟩ := H1.out.laneF hj hal
  have ltJ : ((pickN s.who v.lanes.length : Nat) : Int) < v.lanes.length := by omega
  have lt0 : ((v.lanes.length : Int) == 0) = false := beq_eq_false_iff_ne.2 (by omega)
  rw [hen] at l2
  clear hk hen h0 hj
  have hal' := hal
  clear hal
  unfold stA
  unfold stA at hW
  clear h gv hs hal1 hbo hb hV'
  go_enter Tryd.func31, Tryd.ntmps31
  go_upto_region 1 with fail
  rw [← hW, ← HBO.out]
  clear hW
  obtain ⟨b0, b1, b2, b3, b4⟩ := st_box HBZ.out
  have c6 : W.cell? ⟨wp, 6, none⟩ = some (.slice a.al v.lanes.length a.cl) := H1.out.wpc 6
  rw [hal'] at c6
  clear hal'
  generalize (v.lanes.getD (pickN s.who v.lanes.length) ln0).roots.length = nr at *
  generalize pickN s.who v.lanes.length = j at *
  generalize v.lanes.length = nl at *
  go_wp2_with fail
  refine wp_region_still_tail 12 (by kernel_rfl) (by kernel_rfl) ?_
  simp only [List.take_succ_cons, List.take_zero, List.drop_succ_cons, List.drop_zero]
  (iterate 8 still_step)
  still_call P
  (iterate 3 still_step)
  refine wpStill_nil ?_
  change wpList _ _ _ _ _ W.drew
  have H2 := Lib.hid (H1.out.chs ((Ch.refl [] W).drew))
  have HU2 := Lib.hid (HU1.out.trans (Un.ch ((Ch.refl [] W).drew)))
  clear P l0 l1 l2 b0 b1 b2 b3 b4 c6
  generalize W.drew = w2 at *
  go_wp2_with fail
  go_ret
  exact ⟨rfl, by rw [HVV.out]; exact ⟨O, a, H2.out, HU2.out⟩⟩
set_option maxHeartbeats 8000000 in
theorem stepE {w0 w : World} {O : Nat → Nat} {wp : Nat} {a : VA} {v : Vw} (h : WM w0 w O wp a v) (gv : GV v) (hb : Bnd w0) (s : S5) (hs : SI s) (hk : s.kd < 10) (h8 : s.kd ≠ 8) (h0 : 0 < v.lanes.length) (hen : (v.lanes.getD (pickN s.who v.lanes.length) ln0).en = false) :
    Calls Tryd.prog 31 #[.pointer (some ⟨wp, 0, none⟩), .agg (stA s)] w fun e w' => e = .returned (.bool true) ∧ MX w0 w O w' wp (stepS v s) := by
  obtain ⟨W, hW⟩ : ∃ W, W = w.alloc (.cells (stA s) 86) := ⟨_, rfl⟩
  have hal1 : Ch [] w W := by rw [hW]; exact (Ch.refl _ _).alloc _
  have H1 := Lib.hid (h.chs hal1)
  have HU1 := Lib.hid (Un.ch (O := O) hal1)
  obtain ⟨bo, hbo⟩ : ∃ bo, bo = w.heap.size := ⟨_, rfl⟩
  have HZ0 : Hid (O bo = 0) := Lib.hid (by rw [hbo]; exact h.fresh (Nat.le_refl _))
  have HBZ : Hid (W.heap[bo]? = some (.cells (stA s) 86 (0, 0))) := Lib.hid (by rw [hbo, hW]; exact heap_new w _)
  have HBO := Lib.hid hbo
  have HG := Lib.hid gv
  have HB := Lib.hid hb
  have HSI := Lib.hid hs
  obtain ⟨V', hV'⟩ : ∃ V', V' = stepS v s := ⟨_, rfl⟩
  rw [← hV']
  have HVV : Hid (V' = laneS v (pickN s.who v.lanes.length) s) := Lib.hid (by rw [hV']; unfold stepS; rw [if_neg (by omega), if_neg (by omega), if_neg (by rw [hen]; simp), if_neg h8])
  have HGS : Hid (GV V') := Lib.hid (by rw [hV']; exact step_gv gv s)
  have hnl := gv.nl
  have hk' : (decide ((10 : Int) ≤ s.kd)) = false := by simp; omega
  have hj := pick_lt s.who h0
  have P := pick_any W.drew s.who v.lanes.length hs.who h0 (by have := gv.nl; omega)
  obtain ⟨q, off, hal, _⟩ := H1.out.lane hj
  have HAL := Lib.hid hal
  have HJ := Lib.hid hj
  obtain ⟨l0, l1, l2, _, _⟩ := H1.out.laneF hj hal
  have ltJ : ((pickN s.who v.lanes.length : Nat) : Int) < v.lanes.length := by omega
  have lt0 : ((v.lanes.length : Int) == 0) = false := beq_eq_false_iff_ne.2 (by omega)
  have n8 : (s.kd == 8) = false := beq_eq_false_iff_ne.2 h8
  rw [hen] at l2
  have LA := Lib.hid (fun V (hV : Ch [] W V) => lane_any (H1.out.chs hV) HG.out HB.out HJ.out hen HAL.out s HSI.out)
  have PX := Lib.hid (fun V => pick_any V s.who v.lanes.length HSI.out.who h0 (by have := HG.out.nl; omega))
  unfold stA at LA
  clear hk hen h0 hj h8
  have hal' := hal
  clear hal
  unfold stA
  unfold stA at hW
  clear h gv hs hal1 hbo hb hV'
  go_enter Tryd.func31, Tryd.ntmps31
  go_upto_region 1 with fail
  rw [← hW, ← HBO.out]
  clear hW
  obtain ⟨b0, b1, b2, b3, b4⟩ := st_box HBZ.out
  have c6 : W.cell? ⟨wp, 6, none⟩ = some (.slice a.al v.lanes.length a.cl) := H1.out.wpc 6
  rw [hal'] at c6
  clear hal'
  generalize (v.lanes.getD (pickN s.who v.lanes.length) ln0).roots.length = nr at *
  generalize pickN s.who v.lanes.length = j at *
  generalize v.lanes.length = nl at *
  go_wp2_with fail
  refine wp_region_still_tail 12 (by kernel_rfl) (by kernel_rfl) ?_
  simp only [List.take_succ_cons, List.take_zero, List.drop_succ_cons, List.drop_zero]
  (iterate 8 still_step)
  still_call P
  (iterate 3 still_step)
  refine wpStill_nil ?_
  change wpList _ _ _ _ _ W.drew
  have C2 : Ch [] W W.drew := (Ch.refl [] W).drew
  have HC2 := Lib.hid C2
  have B2 : W.drew.heap[bo]? = some (.cells (stA s) 86 (0, 0)) := HBZ.out
  obtain ⟨d0, d1, d2, d3, d4⟩ := st_box B2
  have c6' := C2.cell c6 (by simp)
  have HU2 := Lib.hid (HU1.out.trans (Un.ch C2))
  clear P l0 l1 l2 b0 b1 b2 b3 b4 c6 C2 B2
  generalize W.drew = w2 at *
  go_wp2_with fail
  have PY := PX.out w2.drew
  have LB := LA.out w2.drew (HC2.out.drew)
  have HU3 := Lib.hid (HU2.out.trans (Un.ch ((Ch.refl [] w2).drew)))
  clear LA PX
  refine wp_region_still_tail 12 (by kernel_rfl) (by kernel_rfl) ?_
  simp only [List.take_succ_cons, List.take_zero, List.drop_succ_cons, List.drop_zero]
  (iterate 10 still_step)
  still_call PY
  (iterate 1 still_step)
  refine wpStill_nil ?_
  change wpList _ _ _ _ _ w2.drew
  clear d0 d1 d2 d3 d4 c6' PY
  generalize w2.drew = w3 at *
  go_wp2_with fail
  refine LB.mono ?_
  rintro e w5 ⟨rfl, O5, a5, k1, k2, k3⟩
  have K1 : Hid (WM w0 w5 O5 wp a5 V') := Lib.hid (by rw [HVV.out]; exact k1)
  have K3 := Lib.hid (HU3.out.trans k3)
  clear LB k1 k2 k3
  have HO := holds_any K1.out HGS.out HB.out
  have p0 : w5.cell? ⟨wp, 0, none⟩ = some (.slice a5.ac V'.cells.length a5.cc) := K1.out.wpc 0
  have p1 : w5.cell? ⟨wp, 1, none⟩ = some (.int .u8 V'.ph) := K1.out.wpc 1
  have p2 : w5.cell? ⟨wp, 2, none⟩ = some (.int .i64 V'.sw) := K1.out.wpc 2
  have p3 : w5.cell? ⟨wp, 3, none⟩ = some (.slice a5.ag V'.grey.length a5.cg) := K1.out.wpc 3
  have p4 : w5.cell? ⟨wp, 4, none⟩ = some (.slice a5.agl V'.globals.length a5.cgl) := K1.out.wpc 4
  have p5 : w5.cell? ⟨wp, 5, none⟩ = some (.int .i64 V'.laid) := K1.out.wpc 5
  have p6 : w5.cell? ⟨wp, 6, none⟩ = some (.slice a5.al V'.lanes.length a5.cl) := K1.out.wpc 6
  unfold VA.arr at HO
  have HZ : Hid (∀ W6, Ch [] w5 W6 → MX w0 w O W6 wp V') := Lib.hid (fun W6 h6 => ⟨O5, a5, K1.out.chs h6, K3.out.trans (Un.ch h6)⟩)
  generalize holdsI V' = hI at *
  generalize V'.cells.length = t0 at *
  generalize V'.grey.length = t3 at *
  generalize V'.globals.length = t4 at *
  generalize V'.lanes.length = t6 at *
  go_wp2_with fail
  refine HO.mono ?_
  rintro e w6 ⟨rfl, c7⟩
  have Z := HZ.out w6 c7
  clear HO p0 p1 p2 p3 p4 p5 p6 c7
  go_wp2_with fail
  go_ret
  exact ⟨rfl, Z⟩
end Go.Proofs.YtlhhcocdhkbdnaaDoor.Kp
