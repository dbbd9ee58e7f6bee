/-
  THE WALKS of BarrierKeeps, on: fill.
-/
import Derived.Test.YtlhhcocdhkbdnaaDoorQKeepW4
set_option linter.unusedVariables false
set_option linter.unusedSimpArgs false
set_option maxRecDepth 100000
namespace Go.Proofs.YtlhhcocdhkbdnaaDoor.Kp
open Go.RowKit Go.Proofs.YtlhhcocdhkbdnaaDoor.Wd Go.Proofs.YtlhhcocdhkbdnaaDoor.Hp Go.Proofs.YtlhhcocdhkbdnaaDoor.Gp Go.Proofs.YtlhhcocdhkbdnaaDoor.Sm Go.Proofs.YtlhhcocdhkbdnaaDoor.Gr Go.Proofs.YtlhhcocdhkbdnaaDoor.Bp Go.Proofs.YtlhhcocdhkbdnaaDoor.Own
/-- A whole cell is written. -/
theorem WM.cell4 {w0 w : World} {O : Nat → Nat} {wp : Nat} {a : VA} {v : Vw} (h : WM w0 w O wp a v) {c : Nat} (hc : c < v.cells.length) {q off : Nat} (hac : a.ac = some ⟨q, off, none⟩) (y : Cel) :
    WM w0 ((((w.setCell ⟨q, off + c * 4, none⟩ (.int .u8 y.k)).setCell ⟨q, off + c * 4 + 1, none⟩ (.int .u8 y.c)).setCell ⟨q, off + c * 4 + 2, none⟩ (.int .u64 y.a)).setCell ⟨q, off + c * 4 + 3, none⟩ (.int .u64 y.b)) O wp a { v with cells := v.cells.set c y } ∧
    Un w O ((((w.setCell ⟨q, off + c * 4, none⟩ (.int .u8 y.k)).setCell ⟨q, off + c * 4 + 1, none⟩ (.int .u8 y.c)).setCell ⟨q, off + c * 4 + 2, none⟩ (.int .u64 y.a)).setCell ⟨q, off + c * 4 + 3, none⟩ (.int .u64 y.b)) O := by
  have at_ : ∀ (l : List Cel) (x : Cel), c < l.length → (l.set c x).getD c z = x := fun l x hx => by rw [getD_setZ _ _ _ _ hx, if_pos rfl]
  obtain ⟨h1, u1⟩ := h.cellS hc hac 0 (.int .u8 y.k) { cel v c with k := y.k } (by omega) rfl
  have l1 : c < (v.cells.set c { cel v c with k := y.k }).length := by rw [List.length_set]; exact hc
  obtain ⟨h2, u2⟩ := h1.cellS l1 hac 1 (.int .u8 y.c) { cel v c with k := y.k, c := y.c } (by omega) (by
    show _ = (celV ((v.cells.set c { cel v c with k := y.k }).getD c z)).set 1 _
    rw [at_ _ _ hc]; rfl)
  have l2 : c < ((v.cells.set c { cel v c with k := y.k }).set c { cel v c with k := y.k, c := y.c }).length := by rw [List.length_set]; exact l1
  obtain ⟨h3, u3⟩ := h2.cellS l2 hac 2 (.int .u64 y.a) { cel v c with k := y.k, c := y.c, a := y.a } (by omega) (by
    show _ = (celV (((v.cells.set c { cel v c with k := y.k }).set c { cel v c with k := y.k, c := y.c }).getD c z)).set 2 _
    rw [at_ _ _ l1]; rfl)
  have l3 : c < (((v.cells.set c { cel v c with k := y.k }).set c { cel v c with k := y.k, c := y.c }).set c { cel v c with k := y.k, c := y.c, a := y.a }).length := by rw [List.length_set]; exact l2
  obtain ⟨h4, u4⟩ := h3.cellS l3 hac 3 (.int .u64 y.b) y (by omega) (by
    show _ = (celV ((((v.cells.set c { cel v c with k := y.k }).set c { cel v c with k := y.k, c := y.c }).set c { cel v c with k := y.k, c := y.c, a := y.a }).getD c z)).set 3 _
    rw [at_ _ _ l2]; rfl)
  have e : ((((v.cells.set c { cel v c with k := y.k }).set c { cel v c with k := y.k, c := y.c }).set c { cel v c with k := y.k, c := y.c, a := y.a }).set c y) = v.cells.set c y := by simp [List.set_set]
  simp only [e] at h4
  refine ⟨?_, ((u1.trans u2).trans u3).trans u4⟩
  exact h4
theorem free_some {v : Vw} {d : Nat} (hd : d < v.cells.length) (h0 : (cel v d).k = 0) (h : ∀ k, k < d → (cel v k).k ≠ 0) : freeK v = some d := by
  unfold freeK
  exact find_at d (by show ((cel v d).k == 0) = true; rw [h0]; rfl) (fun k hk => beq_eq_false_iff_ne.2 (h k hk)) _ hd
theorem free_none {v : Vw} (h : ∀ k, k < v.cells.length → (cel v k).k ≠ 0) : freeK v = none := by
  unfold freeK
  exact find_none _ (fun k hk => beq_eq_false_iff_ne.2 (h k hk))
set_option maxHeartbeats 8000000 in
theorem fill_any {w0 w : World} {O : Nat → Nat} {wp : Nat} {a : VA} {v : Vw} (h : WM w0 w O wp a v) (gv : GV v) (hb : Bnd w0) {j : Nat} (hj : j < v.lanes.length) {q off : Nat} (hal : a.al = some ⟨q, off, none⟩) (s : S5) (hs : SI s) :
    Calls Tryd.prog 100 #[.pointer (some ⟨wp, 0, none⟩), .agg (stA s), .pointer (some ⟨q, off + j * 3, none⟩)] w fun e w' => e = .returned (.bool true) ∧ MW w0 w O w' wp a (fillS v j s) := by
  obtain ⟨W, hW⟩ : ∃ W, W = w.alloc (.cells (stA s) 86) := ⟨_, rfl⟩
  have hal1 : Ch [] w W := by rw [hW]; exact (Ch.refl _ _).alloc _
  have H2 := Lib.hid (h.chs hal1)
  have HU2 := Lib.hid (Un.ch (O := O) hal1)
  obtain ⟨bo, hbo⟩ : ∃ bo, bo = w.heap.size := ⟨_, rfl⟩
  have HZ0 : Hid (O bo = 0) := Lib.hid (by rw [hbo]; exact h.fresh (Nat.le_refl _))
  have HB2 : Hid (W.heap[bo]? = some (.cells (stA s) 86 (0, 0))) := Lib.hid (by rw [hbo, hW]; exact heap_new w _)
  have HBO := Lib.hid hbo
  have HG := Lib.hid gv
  have HJ := Lib.hid hj
  have HAL := Lib.hid hal
  have HB := Lib.hid hb
  have HSI := Lib.hid hs
  have HNC := Lib.hid gv.nc
  obtain ⟨V', hV'⟩ : ∃ V', V' = fillS v j s := ⟨_, rfl⟩
  rw [← hV']
  have HV := Lib.hid hV'
  have HPH := Lib.hid (on_ph gv.mv)
  have hrn := gv.nr _ (getD_memD ln0 hj)
  have c0 : W.cell? ⟨wp, 0, none⟩ = some (.slice a.ac v.cells.length a.cc) := H2.out.wpc 0
  have hnc := gv.nc
  have HLT := Lib.hid (lt_of HB2.out)
  clear h gv hj hal hs hal1 hbo hb hV'
  unfold stA
  unfold stA at hW
  generalize hn : v.cells.length = nc at *
  have HNN := Lib.hid hn
  clear hn
  go_enter Tryd.func100, Tryd.ntmps100
  go_wp2_with fail
  rw [← hW, ← HBO.out]
  clear hW
  go_loopw [7] (fun i wr => ∃ (k : Nat), i = .int .i64 k ∧ k ≤ nc ∧ (∀ m, m < k → (cel v m).k ≠ 0) ∧ W = wr) (fun i _ => nc - (intOf i).toNat)
  case atStart => exact ⟨0, rfl, by omega, fun m hm => absurd hm (by omega), rfl⟩
  case round =>
    obtain ⟨d, rfl, hd, hall, rfl⟩ := hrel
    have HALL := Lib.hid hall
    clear hall
    by_cases hlt : d < nc
    · have ltD : (d : Int) < nc := by omega
      obtain ⟨qc, oc, hac, _⟩ := H2.out.cell (c := d) (by rw [HNN.out]; exact hlt)
      have HAC := Lib.hid hac
      rw [hac] at c0
      obtain ⟨y0, _, _, _, _⟩ := H2.out.cellF (c := d) (by rw [HNN.out]; exact hlt) hac
      clear hac
      by_cases hk0 : (cel v d).k = 0
      · rw [hk0] at y0
        have HK0 := Lib.hid hk0
        have HF := Lib.hid (free_some (v := v) (d := d) (by rw [HNN.out]; exact hlt) hk0 HALL.out)
        obtain ⟨_, _, b2, b3, b4⟩ := st_box HB2.out
        obtain ⟨l0, l1, l2, _⟩ := H2.out.laneF HJ.out HAL.out
        have c1 : W.cell? ⟨wp, 1, none⟩ = some (.int .u8 v.ph) := H2.out.wpc 1
        have VA1 := value_any W q (off + j * 3) (a.la j) (a.lc j) (v.lanes.getD j ln0) s.a HSI.out.a hrn l0 (by simpa using (H2.out.rt j HJ.out).rd.1)
        have VA2 := value_any W q (off + j * 3) (a.la j) (a.lc j) (v.lanes.getD j ln0) s.b HSI.out.b hrn l0 (by simpa using (H2.out.rt j HJ.out).rd.1)
        have HX := Lib.hid (HG.out.val HJ.out s.a)
        have HY := Lib.hid (HG.out.val HJ.out s.b)
        have HS := Lib.hid (fill_sok v (v.lanes.getD j ln0).sc (valK (v.lanes.getD j ln0) s.a) (valK (v.lanes.getD j ln0) s.b))
        have hsl := fillL_len v.ph (v.lanes.getD j ln0).sc (valK (v.lanes.getD j ln0) s.a) (valK (v.lanes.getD j ln0) s.b) v.cells
        have STX := Lib.hid (fun V (hV : Ch [] W V) => Fill_any V a.ac a.cc v.cells v.ph (v.lanes.getD j ln0).sc (valK (v.lanes.getD j ln0) s.a) (valK (v.lanes.getD j ln0) s.b) (by have := HG.out.nc; omega) (H2.out.chs hV).vm.cells HG.out.inr HX.out.1.2 HY.out.1.2 (Bnd.ch HB.out (H2.out.chs hV).g.ch (by simp)))
        rw [HAC.out] at STX
        have HVV : Hid (V' = setL (fillV (shadeV v (fillL v.ph (v.lanes.getD j ln0).sc (valK (v.lanes.getD j ln0) s.a) (valK (v.lanes.getD j ln0) s.b) v.cells)) d (1 + (pickN s.c 3 : Nat)) (valK (v.lanes.getD j ln0) s.a) (valK (v.lanes.getD j ln0) s.b)) j (takesK (v.lanes.getD j ln0) (refW d))) := Lib.hid (by rw [HV.out]; unfold fillS; rw [HF.out])
        have HL := Lib.hid hrn
        clear hk0
        generalize valK (v.lanes.getD j ln0) s.a = x at *
        generalize valK (v.lanes.getD j ln0) s.b = y at *
        generalize hsc : (v.lanes.getD j ln0).sc = sc at *
        have HSC := Lib.hid hsc
        clear hsc
        generalize (v.lanes.getD j ln0).roots.length = nr at *
        generalize hSS : fillL v.ph sc x y v.cells = S at *
        generalize hph : v.ph = ph at *
        have HP := Lib.hid hph
        clear hSS hph
        rw [HNN.out] at STX
        have HKS : Hid (∀ V, Ch [] W V → V.cell? ⟨wp, 0, none⟩ = some (.slice (some ⟨qc, oc, none⟩) nc a.cc) ∧ V.cell? ⟨wp, 1, none⟩ = some (.int .u8 ph) ∧ V.cell? ⟨q, off + j * 3 + 1, none⟩ = some (.bool sc)) := Lib.hid (fun V hV => ⟨hV.cell c0 (by simp), hV.cell c1 (by simp), hV.cell l1 (by simp)⟩)
        have SHX : Hid (∀ W8 lo lc qs, WM w0 W8 O wp a v → Row W8 3 1 (.slice lo S.length lc) qs S.length (nv S) → (∀ x ∈ qs, O x = 0 ∧ x < W8.heap.size) → Calls Tryd.prog 99 #[.pointer (some ⟨wp, 0, none⟩), .slice lo S.length lc] W8 fun e w' => e = .returned (.bool true) ∧ MW w0 W8 O w' wp a (shadeV v S)) := Lib.hid (fun W8 lo lc qs g1 g2 g3 => shade_any g1 HG.out.nc HG.out.greyLen HS.out (by omega) rfl g2 g3)
        have HKT : Hid (∀ V O9 a9, WM w0 V O9 wp a9 (shadeV v S) → SmA a a9 → V.cell? ⟨wp, 0, none⟩ = some (.slice (some ⟨qc, oc, none⟩) nc a.cc) ∧ V.cell? ⟨wp, 1, none⟩ = some (.int .u8 ph) ∧ V.cell? ⟨q, off + j * 3 + 1, none⟩ = some (.bool sc)) := Lib.hid (fun V O9 a9 hV hA => by
          have e0 : V.cell? ⟨wp, 0, none⟩ = some (.slice a9.ac (shadeV v S).cells.length a9.cc) := hV.wpc 0
          have e1 : V.cell? ⟨wp, 1, none⟩ = some (.int .u8 v.ph) := hV.wpc 1
          have e2 := (hV.laneF HJ.out (hA.al.trans HAL.out)).2.1
          rw [hA.ac, hA.cc, HAC.out, show (shadeV v S).cells.length = v.cells.length from gray_len _ _, HNN.out] at e0
          rw [HP.out] at e1
          exact ⟨e0, e1, by rw [← HSC.out]; exact e2⟩)
        generalize S.length = ns at *
        go_wp2_with fail
        refine VA1.mono ?_
        rintro e w2 ⟨rfl, rfl⟩
        clear VA1
        go_wp2_with fail
        refine VA2.mono ?_
        rintro e w2 ⟨rfl, rfl⟩
        clear VA2
        go_wp2_with fail
        go_region_held3 (fun w' => w'.cell? ⟨wp, 0, none⟩ = some (.slice (some ⟨qc, oc, none⟩) nc a.cc) ∧ w'.cell? ⟨wp, 1, none⟩ = some (.int .u8 ph) ∧ w'.cell? ⟨q, off + j * 3 + 1, none⟩ = some (.bool sc)) (first | exact HK9.out | exact HK8.out | (refine HKS.out _ ?_ <;> repeat (first | exact Ch.refl _ _ | apply Ch.drew))) (first | (go_at_call 14; refine (STX.out _ (by repeat (first | exact Ch.refl _ _ | apply Ch.drew))).mono ?_; intro e w8 hm; have HC8 : Hid (Ch [] w2 w8) := Lib.hid (Ch.trans' (by repeat (first | exact Ch.refl _ _ | apply Ch.drew)) (mk1_ch hm)); have HK8 := Lib.hid (HKS.out w8 HC8.out); obtain ⟨lo, lc, qs, rfl, g1, g2, g3⟩ := WM.made (H2.out.chs (by repeat (first | exact Ch.refl _ _ | apply Ch.drew))) hm; have SH := SHX.out w8 lo lc qs g1 g2 g3; clear g1 g2 g3 hm) | (go_at_call 99; refine SH.mono ?_; rintro e w9 ⟨rfl, O9, a9, k1, k2, k3⟩; have HK9 := Lib.hid (HKT.out w9 O9 a9 k1 k2); have K1 := Lib.hid k1; have K2 := Lib.hid k2; have K3 := Lib.hid k3; clear k1 k2 k3))
        all_goals
          have HB9 := (K3.out.un bo (lt_of (HC8.out.heap HB2.out (by simp))) HZ0.out).1.trans (HC8.out.heap HB2.out (by simp))
          obtain ⟨_, _, _, _, b4⟩ := st_box HB9
          obtain ⟨c0, c1, _⟩ := HK9.out
          have c2 : w9.cell? ⟨wp, 2, none⟩ = some (.int .i64 v.sw) := K1.out.wpc 2
          have hl9 : d < (shadeV v S).cells.length := by rw [show (shadeV v S).cells.length = v.cells.length from gray_len _ _, HNN.out]; exact hlt
          have HL9 := Lib.hid hl9
          have P3 := pick_any w9.drew s.c 3 HSI.out.c (by omega) (by omega)
          have hp3 := pick_lt s.c (show 0 < 3 by omega)
          have BI := Birth_any (w := w9.drew) (p := ph) d v.sw
          rw [show birthC ph d v.sw = 2 by unfold birthC; rw [HPH.out]; rfl] at BI
          clear HB9 hl9
          generalize v.sw = sw at *
          generalize pickN s.c 3 = pk at *
          go_wp2_with fail
          refine wp_region_still_tail 27 (by kernel_rfl) (by kernel_rfl) ?_
          simp only [List.take_succ_cons, List.take_zero, List.drop_succ_cons, List.drop_zero]
          (iterate 8 still_step)
          still_call P3
          (iterate 13 still_step)
          still_call BI
          (iterate 4 still_step)
          refine wpStill_nil ?_
          change wpList _ _ _ _ _ w9.drew
          have D1 := Lib.hid (K1.out.chs ((Ch.refl [] w9).drew))
          have HU10 : Hid (Un w O w9.drew O9) := Lib.hid (((HU2.out.trans (Un.ch HC8.out)).trans K3.out).trans (Un.ch ((Ch.refl [] w9).drew)))
          clear c0 c1 c2 b4 P3 BI
          generalize w9.drew = w10 at *
          have hac9 := K2.out.ac.trans HAC.out
          obtain ⟨y0, y1, y2, y3, f9, _⟩ := D1.out.cellF HL9.out hac9
          have f0 : w10.frozen? ⟨qc, oc + d * 4, none⟩ = false := f9 (d * 4)
          have f1 : w10.frozen? ⟨qc, oc + d * 4 + 1, none⟩ = false := f9 (d * 4 + 1)
          have f2 : w10.frozen? ⟨qc, oc + d * 4 + 2, none⟩ = false := f9 (d * 4 + 2)
          have f3 : w10.frozen? ⟨qc, oc + d * 4 + 3, none⟩ = false := f9 (d * 4 + 3)
          have Z := D1.out.cell4 HL9.out hac9 ⟨1 + (pk : Int), 2, x, y⟩
          have Z1 := Lib.hid Z.1
          have Z2 := Lib.hid (HU10.out.trans Z.2)
          clear Z hac9 f9
          generalize (cel (shadeV v S) d).k = u0 at *
          generalize (cel (shadeV v S) d).c = u1 at *
          generalize (cel (shadeV v S) d).a = u2 at *
          generalize (cel (shadeV v S) d).b = u3 at *
          go_wp2_with fail
          generalize (((w10.setCell ⟨qc, oc + d * 4, none⟩ (.int .u8 (1 + (pk : Int)))).setCell ⟨qc, oc + d * 4 + 1, none⟩ (.int .u8 2)).setCell ⟨qc, oc + d * 4 + 2, none⟩ (.int .u64 x)).setCell ⟨qc, oc + d * 4 + 3, none⟩ (.int .u64 y) = w11 at *
          refine (Rd.Ref_any w11 d (by omega) (by omega)).mono ?_
          rintro e w12 ⟨rfl, rfl⟩
          have TK := takes_any Z1.out (j := j) HJ.out (K2.out.al.trans HAL.out) (refW d) (HG.out.nr _ (getD_memD ln0 HJ.out))
          go_wp2_with fail
          refine TK.mono ?_
          rintro e w13 ⟨rfl, O13, a13, k1, k2, k3⟩
          have M1 := Lib.hid k1
          have M2 := Lib.hid k2
          have M3 := Lib.hid k3
          clear TK k1 k2 k3
          go_wp2_with fail
          go_ret
          exact ⟨rfl, by rw [HVV.out]; exact ⟨O13, a13, M1.out, K2.out.trans M2.out, Z2.out.trans M3.out⟩⟩
      · have hkb : ((cel v d).k != 0) = true := by simpa using hk0
        have HAL1 : Hid (∀ m, m < d + 1 → (cel v m).k ≠ 0) := Lib.hid (fun m hm => by
          rcases (show m < d ∨ m = d by omega) with e | e
          · exact HALL.out m e
          · rw [e]; exact hk0)
        clear hk0
        generalize (cel v d).k = kd at *
        go_wp2_with fail
        go_roundw
        case rel => exact ⟨d + 1, by go_num, by omega, HAL1.out, by first | rfl | trivial⟩
        case measure => simp [intOf]; omega
    · have ltD : ¬ (d : Int) < nc := by omega
      obtain rfl : nc = d := by omega
      have HVV : Hid (V' = v) := Lib.hid (by
        rw [HV.out]; unfold fillS
        rw [free_none (fun k hk => HALL.out k (by rw [HNN.out] at hk; exact hk))])
      go_wp2_with fail
      go_ret
      exact ⟨rfl, by rw [HVV.out]; exact ⟨O, a, H2.out, SmA.refl a, HU2.out⟩⟩
end Go.Proofs.YtlhhcocdhkbdnaaDoor.Kp
