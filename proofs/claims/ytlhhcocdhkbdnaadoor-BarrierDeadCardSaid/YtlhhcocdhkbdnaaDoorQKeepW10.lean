/-
  THE WALKS of BarrierKeeps, on: a lane's steps (the collector scans, looks into a cell).
-/
import Derived.Test.YtlhhcocdhkbdnaaDoorQKeepW9
set_option linter.unusedVariables false
set_option linter.unusedSimpArgs false
set_option maxRecDepth 100000
namespace Go.Proofs.YtlhhcocdhkbdnaaDoor.Kp
open Go.RowKit Go.Proofs.YtlhhcocdhkbdnaaDoor.Wd Go.Proofs.YtlhhcocdhkbdnaaDoor.Hp Go.Proofs.YtlhhcocdhkbdnaaDoor.Gp Go.Proofs.YtlhhcocdhkbdnaaDoor.Sm Go.Proofs.YtlhhcocdhkbdnaaDoor.Gr Go.Proofs.YtlhhcocdhkbdnaaDoor.Bp Go.Proofs.YtlhhcocdhkbdnaaDoor.Own
theorem scanK_snoc : ∀ (rs : List Int) (v : Vw) (r : Int), scanK v (rs ++ [r]) = shadeV (scanK v rs) (storeL (scanK v rs).ph false r r (scanK v rs).cells)
  | [], v, r => rfl
  | x :: rs, v, r => scanK_snoc rs (shadeV v (storeL v.ph false x x v.cells)) r
set_option maxHeartbeats 8000000 in
theorem coll12 {w0 w : World} {O : Nat → Nat} {wp : Nat} {a : VA} {v : Vw} (h : WM w0 w O wp a v) (gv : GV v) (hb : Bnd w0) (s : S5) (hs : SI s) (hk : s.kd = 12) :
    Calls Tryd.prog 76 #[.pointer (some ⟨wp, 0, none⟩), .agg (stA s)] w fun e w' => e = .returned (.bool true) ∧ MW w0 w O w' wp a (collectS v s) := by
  obtain ⟨W, hW⟩ : ∃ W, W = w.alloc (.cells (stA s) 86) := ⟨_, rfl⟩
  have hal1 : Ch [] w W := by rw [hW]; exact (Ch.refl _ _).alloc _
  have H1 := Lib.hid (h.chs hal1)
  have HU1 := Lib.hid (Un.ch (O := O) hal1)
  obtain ⟨bo, hbo⟩ : ∃ bo, bo = w.heap.size := ⟨_, rfl⟩
  have HZ0 : Hid (O bo = 0) := Lib.hid (by rw [hbo]; exact h.fresh (Nat.le_refl _))
  have HBZ : Hid (W.heap[bo]? = some (.cells (stA s) 86 (0, 0))) := Lib.hid (by rw [hbo, hW]; exact heap_new w _)
  have HBO := Lib.hid hbo
  have HG := Lib.hid gv
  have HB := Lib.hid hb
  have HSI := Lib.hid hs
  obtain ⟨V', hV'⟩ : ∃ V', V' = collectS v s := ⟨_, rfl⟩
  rw [← hV']
  have HVV : Hid (V' = intoV v) := Lib.hid (by rw [hV']; unfold collectS; rw [if_neg (by rw [hk]; decide), if_neg (by rw [hk]; decide), if_pos hk])
  have n10 : (s.kd == 10) = false := by rw [hk]; rfl
  have n11 : (s.kd == 11) = false := by rw [hk]; rfl
  have n12 : (s.kd == 12) = true := by rw [hk]; rfl
  clear hk
  have c3 : W.cell? ⟨wp, 3, none⟩ = some (.slice a.ag v.grey.length a.cg) := H1.out.wpc 3
  have hgl := gv.greyLen
  cases hg : v.grey with
  | nil =>
    have HV2 : Hid (V' = v) := Lib.hid (by rw [HVV.out]; unfold intoV; rw [hg])
    rw [hg] at c3
    simp only [List.length_nil] at c3
    clear hg
    unfold stA
    unfold stA at hW
    clear h gv hs hal1 hbo hb hV'
    go_enter Tryd.func76, Tryd.ntmps76
    go_upto_region 1 with fail
    rw [← hW, ← HBO.out]
    clear hW
    obtain ⟨b0, b1, b2, b3, b4⟩ := st_box HBZ.out
    go_wp2_with fail
    go_ret
    exact ⟨rfl, by rw [HV2.out]; exact ⟨O, a, H1.out, SmA.refl a, HU1.out⟩⟩
  | cons cc g =>
    obtain ⟨hc, hd, hgd, hsok, hnd, _⟩ := into_eq gv hg
    have HV2 : Hid (V' = shadeV (blackV v cc.toNat) (intoS v cc.toNat)) := Lib.hid (by rw [HVV.out]; unfold intoV; rw [hg])
    obtain ⟨d, hdd⟩ : ∃ d, d = cc.toNat := ⟨_, rfl⟩
    rw [← hdd] at hc hd hgd hsok hnd HV2
    have HD := Lib.hid hd
    have HWD := Lib.hid (gv.cellOk (show nofree (cel v d) = true by unfold isGrey at hgd; simp only [Bool.and_eq_true] at hgd; exact hgd.1))
    obtain ⟨qc, oc, hac, _⟩ := H1.out.cell hd
    have HAC := Lib.hid hac
    have HRG : Hid (Gr.RdF W a.ag v.grey.length (ints .i64 v.grey) []) := Lib.hid H1.out.vm.grey
    have hcap := H1.out.gr.rd.2.1
    obtain ⟨gb, go, hga, hgj⟩ := (HRG.out.rd).2.resolve_left (by rw [hg]; simp)
    have a1 : W.cell? ⟨gb, go, none⟩ = some (.int .i64 (d : Int)) := by
      have := hgj 0 (by rw [hg]; simp)
      rw [hg] at this
      rw [Nat.add_zero] at this
      rw [this, ← hc]; rfl
    obtain ⟨i0, hi, he⟩ := Option.map_eq_some_iff.1 Gr.infoInt
    simp only [Prod.mk.injEq] at he
    obtain ⟨hz0, hz1, hz2⟩ := he
    have et : Tryd.prog.elem 50 = 3 := by kernel_rfl
    obtain ⟨so, sc, hs1, hs2, hs3⟩ := slice_from (P := Tryd.prog) 50 3 (by rw [et]; exact Tryd.underlying50) et i0 hi hz1 a.ag v.grey.length a.cg 1 (by rw [hg]; simp) hcap
    have HS3 := Lib.hid (hs3 W .i64 v.grey HRG.out)
    have hg1 : v.grey.drop 1 = g := by rw [hg]; rfl
    have hgn : v.grey.length - 1 = g.length := by rw [hg]; simp
    rw [hg1, hgn] at HS3
    rw [hgn] at hs1 hs2
    rw [hga] at c3 hs1 hs2
    rw [show ((1 : Nat) : Int) = 1 from rfl] at hs1 hs2
    have HG1 := Lib.hid hg1
    have lt0 : (0 : Int) < v.grey.length := by rw [hg, List.length_cons]; omega
    have hgl2 : g.length ≤ 60 := by omega
    have HGL := Lib.hid hgl2
    have H1C := Lib.hid (ints_one .i64 g)
    have HPC := Lib.hid gv.nc
    have HPI := Lib.hid gv.inr
    clear hs3 hg1 hgn hga hgj hcap et hc hd hgd hsok hnd hac hg hdd
    generalize v.grey.length = gl at *
    generalize hgln : g.length = gn at *
    have HGN := Lib.hid hgln
    clear hgln
    unfold stA
    unfold stA at hW
    clear h gv hs hal1 hbo hb hV'
    go_enter Tryd.func76, Tryd.ntmps76
    go_upto_region 1 with fail
    rw [← hW, ← HBO.out]
    clear hW
    obtain ⟨b0, b1, b2, b3, b4⟩ := st_box HBZ.out
    have HS3' := Lib.hid HS3.out.rd
    go_wp2_with (at_builtin; go_loud (refine wpList_append_copy _ rfl _ _ 50 rfl 3 i0 _ 1 8 Tryd.underlying50 hi hz0 hz1 hz2 rfl (by decide) rfl so gn sc rfl (ints .i64 g) (by have := HS3'.out; rwa [Nat.mul_one]) H1C.out (by unfold maxLen; omega) (by omega) ?_))
    intro v9 w9 q9 hr9 hc9 hq9
    obtain ⟨ao9, cap9, rfl, _⟩ := hr9.rd
    have hq9' : ∀ y ∈ q9, W.heap.size ≤ y ∧ y < w9.heap.size := fun y hy => by
      rcases hq9 with e | ⟨q', e, h1, h2⟩
      · rw [e] at hy; simp at hy
      · rw [e] at hy; simp at hy; omega
    have L1 := H1.out.greyS (w1 := w9) (T := []) (g := g) (by rw [HGN.out]; exact hr9) hc9 (by simp) (fun y hy => .inr (hq9' y hy))
    rw [HGN.out] at L1
    have HL1 := Lib.hid L1
    have HUL : Hid (Un w O (w9.setCell ⟨wp, 3, none⟩ (.slice ao9 gn cap9)) (put O 3 q9)) := Lib.hid (HU1.out.trans (Un.of ((hc9.mono (T := [wp]) (by simp)).setCell _ _ (.inl (by simp))) (fun y hy => by simp at hy; rw [hy, H1.out.o1]; omega) (put_un (w1 := w9) (by omega) (fun y hy => .inr (hq9' y hy)))))
    have m3 := hc9.cell c3 (by simp)
    have f3 : w9.frozen? ⟨wp, 3, none⟩ = false := free_at (H1.out.chs hc9).hp
    clear L1 hr9 hc9 hq9 hq9' c3 a1
    go_upto_region 23 with fail
    generalize w9.setCell ⟨wp, 3, none⟩ (.slice ao9 gn cap9) = w10 at *
    have c0 : w10.cell? ⟨wp, 0, none⟩ = some (.slice a.ac v.cells.length a.cc) := HL1.out.wpc 0
    rw [HAC.out] at c0
    obtain ⟨_, y1, _, _, yf, yo⟩ := HL1.out.cellF (c := d) HD.out (show (({ a with ag := ao9, cg := cap9 } : VA)).ac = _ from HAC.out)
    have f1 : w10.frozen? ⟨qc, oc + d * 4 + 1, none⟩ = false := yf (d * 4 + 1)
    have ltD : (d : Int) < v.cells.length := by have := HD.out; omega
    have L2 := HL1.out.cellS (c := d) HD.out (show (({ a with ag := ao9, cg := cap9 } : VA)).ac = _ from HAC.out) 1 (.int .u8 2) { cel v d with c := 2 } (by omega) rfl
    rw [show oc + (d * 4 + 1) = oc + d * 4 + 1 by omega] at L2
    have HL2 : Hid (WM w0 (w10.setCell ⟨qc, oc + d * 4 + 1, none⟩ (.int .u8 2)) (put O 3 q9) wp { a with ag := ao9, cg := cap9 } (blackV v d)) := Lib.hid (by
      have e : blackV v d = { v with cells := v.cells.set d { cel v d with c := 2 }, grey := g } := by unfold blackV; rw [HG1.out]
      rw [e]; exact L2.1)
    have HU2 := Lib.hid (HUL.out.trans L2.2)
    clear L2 m3 f3 yf
    generalize hx1 : (cel v d).c = xc at *
    go_upto_region 24 with fail
    generalize w10.setCell ⟨qc, oc + d * 4 + 1, none⟩ (.int .u8 2) = w11 at *
    have hbl : (blackV v d).cells.length = v.cells.length := by show (List.set _ _ _).length = _; rw [List.length_set]
    have hbc : cel (blackV v d) d = { cel v d with c := 2 } := by show (List.set _ _ _).getD d z = _; rw [getD_setZ _ _ _ _ HD.out, if_pos rfl]
    have hin : ∀ y ∈ (blackV v d).cells, InR y := fun y hy => by
      rcases List.mem_or_eq_of_mem_set hy with e | e
      · exact HPI.out y e
      · have := HPI.out _ (getD_memD z HD.out)
        rw [e]; exact ⟨this.1, this.2.1, by simp, by simp, this.2.2.2.2.1, this.2.2.2.2.2⟩
    have c0' : w11.cell? ⟨wp, 0, none⟩ = some (.slice a.ac (blackV v d).cells.length a.cc) := HL2.out.wpc 0
    rw [HAC.out, hbl] at c0'
    obtain ⟨_, _, y2, y3, _, _⟩ := HL2.out.cellF (c := d) (by rw [hbl]; exact HD.out) (show (({ a with ag := ao9, cg := cap9 } : VA)).ac = _ from HAC.out)
    rw [hbc] at y2 y3
    simp only at y2 y3
    have CD : Ch [] w11 w11.drew := (Ch.refl [] w11).drew
    have HL3 := Lib.hid (HL2.out.chs CD)
    have HU3 := Lib.hid (HU2.out.trans (Un.ch CD))
    have WD := words_any HL3.out hin (by rw [hbl]; exact HPC.out) (by show (v.grey.drop 1).length ≤ 60; rw [HG1.out, HGN.out]; exact HGL.out) (cel v d).a (cel v d).b (HWD.out false).2 (HWD.out true).2 HB.out
    clear hbl hbc hin c0 y1 f1 CD
    have HV3 : Hid (V' = shadeV (blackV v d) (storeL (blackV v d).ph false (cel v d).a (cel v d).b (blackV v d).cells)) := Lib.hid HV2.out
    generalize (cel v d).a = ca at *
    generalize (cel v d).b = cb at *
    generalize v.cells.length = nc at *
    refine wp_region_still_tail 19 (by kernel_rfl) (by kernel_rfl) ?_
    simp only [List.take_succ_cons, List.take_zero, List.drop_succ_cons, List.drop_zero]
    (iterate 19 still_step)
    refine wpStill_nil ?_
    change wpList _ _ _ _ _ w11.drew
    clear c0' y2 y3
    generalize w11.drew = w12 at *
    go_wp2_with fail
    refine WD.mono ?_
    rintro e w13 ⟨rfl, O5, a5, k1, k2, k3⟩
    have Z : Hid (MW w0 w O w13 wp a V') := Lib.hid (by
      rw [HV3.out]
      exact ⟨O5, a5, k1, SmA.trans (b := { a with ag := ao9, cg := cap9 }) ⟨rfl, rfl, rfl, rfl, rfl⟩ k2, HU3.out.trans k3⟩)
    clear WD k1 k2 k3
    go_wp2_with fail
    go_ret
    exact ⟨rfl, Z.out⟩
set_option maxHeartbeats 8000000 in
theorem coll11 {w0 w : World} {O : Nat → Nat} {wp : Nat} {a : VA} {v : Vw} (h : WM w0 w O wp a v) (gv : GV v) (hb : Bnd w0) (s : S5) (hs : SI s) (hk : s.kd = 11) :
    Calls Tryd.prog 76 #[.pointer (some ⟨wp, 0, none⟩), .agg (stA s)] w fun e w' => e = .returned (.bool true) ∧ MW w0 w O w' wp a (collectS v s) := by
  obtain ⟨W, hW⟩ : ∃ W, W = w.alloc (.cells (stA s) 86) := ⟨_, rfl⟩
  have hal1 : Ch [] w W := by rw [hW]; exact (Ch.refl _ _).alloc _
  have H1 := Lib.hid (h.chs hal1)
  have HU1 := Lib.hid (Un.ch (O := O) hal1)
  obtain ⟨bo, hbo⟩ : ∃ bo, bo = w.heap.size := ⟨_, rfl⟩
  have HZ0 : Hid (O bo = 0) := Lib.hid (by rw [hbo]; exact h.fresh (Nat.le_refl _))
  have HBZ : Hid (W.heap[bo]? = some (.cells (stA s) 86 (0, 0))) := Lib.hid (by rw [hbo, hW]; exact heap_new w _)
  have HBO := Lib.hid hbo
  have HG := Lib.hid gv
  have HB := Lib.hid hb
  have HSI := Lib.hid hs
  obtain ⟨V', hV'⟩ : ∃ V', V' = collectS v s := ⟨_, rfl⟩
  rw [← hV']
  have HVV : Hid (V' = if 0 < v.lanes.length then scanV v (pickN s.who v.lanes.length) else v) := Lib.hid (by rw [hV']; unfold collectS; rw [if_neg (by rw [hk]; decide), if_pos hk])
  have n10 : (s.kd == 10) = false := by rw [hk]; rfl
  have n11 : (s.kd == 11) = true := by rw [hk]; rfl
  clear hk
  have c6 : W.cell? ⟨wp, 6, none⟩ = some (.slice a.al v.lanes.length a.cl) := H1.out.wpc 6
  by_cases h0 : 0 < v.lanes.length
  · have HV2 : Hid (V' = scanK (setL v (pickN s.who v.lanes.length) { v.lanes.getD (pickN s.who v.lanes.length) ln0 with sc := true }) (v.lanes.getD (pickN s.who v.lanes.length) ln0).roots) := Lib.hid (by rw [HVV.out, if_pos h0]; rfl)
    have P := pick_any W.drew s.who v.lanes.length hs.who h0 (by have := gv.nl; omega)
    have hp := pick_lt s.who h0
    have ltP : ((pickN s.who v.lanes.length : Nat) : Int) < v.lanes.length := by omega
    have lt0 : (0 : Int) < v.lanes.length := by omega
    have HNL : Hid (v.lanes.length = v.lanes.length) := Lib.hid rfl
    generalize hpk : pickN s.who v.lanes.length = j at *
    have HJ := Lib.hid hp
    obtain ⟨q, off, hal, _⟩ := H1.out.lane hp
    have HAL := Lib.hid hal
    rw [hal] at c6
    obtain ⟨l0, l1, l2, lf, lo⟩ := H1.out.laneF hp hal
    have HGK : Hid (∀ k, GV (scanK v ((v.lanes.getD j ln0).roots.take k))) := Lib.hid (fun k => (scanK_gv _ gv).1)
    have hrn := gv.nr _ (getD_memD ln0 hp)
    have HRU := Lib.hid (gv.rootsOk hp)
    have HQ5 : Hid (O q = 5) := Lib.hid lo
    have L1 := (H1.out.chs ((Ch.refl [] W).drew)).laneB (t := 1) (l := { v.lanes.getD j ln0 with sc := true }) hp hal (.inl rfl) rfl true ⟨fun _ => ⟨rfl, rfl⟩, fun e => by omega⟩
    rw [show off + (j * 3 + 1) = off + j * 3 + 1 by omega] at L1
    have HL1 := Lib.hid L1
    have f1 : W.drew.frozen? ⟨q, off + j * 3 + 1, none⟩ = false := lf (j * 3 + 1)
    have l1' : W.drew.cell? ⟨q, off + j * 3 + 1, none⟩ = some (.bool (v.lanes.getD j ln0).sc) := l1
    have HUL : Hid (Un w O (W.drew.setCell ⟨q, off + j * 3 + 1, none⟩ (.bool true)) O) := Lib.hid ((HU1.out.trans (Un.ch ((Ch.refl [] W).drew))).trans (Un.of ((Ch.refl [q] W.drew).setCell _ _ (.inl (by simp))) (fun y hy => by simp at hy; rw [hy, HQ5.out]; omega) (fun _ _ h => h)))
    have HLK : Hid (∀ rs, (scanK (setL v j { v.lanes.getD j ln0 with sc := true }) rs).lanes.getD j ln0 = { v.lanes.getD j ln0 with sc := true } ∧ j < (scanK (setL v j { v.lanes.getD j ln0 with sc := true }) rs).lanes.length) := Lib.hid (fun rs => by
      rw [(scanK_same rs _).1]
      have hl : (setL v j { v.lanes.getD j ln0 with sc := true }).lanes.length = v.lanes.length := List.length_set
      exact ⟨by rw [lane_set_at _ _ _ HJ.out, if_pos rfl], by rw [hl]; exact HJ.out⟩)
    have HKC : Hid (∀ k, (scanK (setL v j { v.lanes.getD j ln0 with sc := true }) ((v.lanes.getD j ln0).roots.take k)).cells = (scanK v ((v.lanes.getD j ln0).roots.take k)).cells ∧ (scanK (setL v j { v.lanes.getD j ln0 with sc := true }) ((v.lanes.getD j ln0).roots.take k)).grey = (scanK v ((v.lanes.getD j ln0).roots.take k)).grey) := Lib.hid (fun k => by rw [scanK_set]; exact ⟨rfl, rfl⟩)
    clear L1 hal hp h0 l0 l1 l2 lf lo
    unfold stA
    unfold stA at hW
    clear h gv hs hal1 hbo hb hV'
    go_enter Tryd.func76, Tryd.ntmps76
    go_upto_region 1 with fail
    rw [← hW, ← HBO.out]
    clear hW
    obtain ⟨b0, b1, b2, b3, b4⟩ := st_box HBZ.out
    go_wp2_with fail
    refine wp_region_still_tail 15 (by kernel_rfl) (by kernel_rfl) ?_
    simp only [List.take_succ_cons, List.take_zero, List.drop_succ_cons, List.drop_zero]
    (iterate 13 still_step)
    still_call P
    (iterate 1 still_step)
    refine wpStill_nil ?_
    change wpList _ _ _ _ _ W.drew
    clear c6 P b0 b1 b2 b3 b4
    generalize W.drew = w2 at *
    have HLR : Hid (({ v.lanes.getD j ln0 with sc := true } : Ln).roots = (v.lanes.getD j ln0).roots) := Lib.hid rfl
    generalize ({ v.lanes.getD j ln0 with sc := true } : Ln) = L' at *
    generalize hrs : (v.lanes.getD j ln0).roots = rs at *
    generalize (v.lanes.getD j ln0).sc = sc0 at *
    go_upto_region 11 with fail
    generalize w2.setCell ⟨q, off + j * 3 + 1, none⟩ (.bool true) = w3 at *
    clear l1' f1
    generalize hnr : rs.length = nr at *
    have HNR := Lib.hid hnr
    have HRS := Lib.hid hrs
    clear hnr hrs
    go_wp2_with fail
    go_loopw [7] (fun i wr => ∃ (k : Nat) (O' : Nat → Nat) (a' : VA), i = .int .i64 k ∧ k ≤ nr ∧ WM w0 wr O' wp a' (scanK (setL v j L') (rs.take k)) ∧ SmA a a' ∧ Un w O wr O') (fun i _ => nr - (intOf i).toNat)
    case atStart => exact ⟨0, O, a, rfl, by omega, HL1.out, SmA.refl a, HUL.out⟩
    case round =>
      obtain ⟨k, O2, a2, rfl, hk, hw, hsm, hun⟩ := hrel
      have HWM := Lib.hid hw
      have HSM := Lib.hid hsm
      have HUN := Lib.hid hun
      obtain ⟨e1, e2⟩ := HLK.out (rs.take k)
      obtain ⟨l0, _, _, _, _⟩ := hw.laneF e2 (hsm.al.trans HAL.out)
      rw [e1] at l0
      have hrd := (hw.rt j e2).rd.1
      rw [e1] at hrd
      rw [HLR.out, HNR.out] at l0 hrd
      by_cases hlt : k < nr
      · have ltK : (k : Int) < nr := by omega
        have hkl : k < rs.length := by rw [HNR.out]; exact hlt
        obtain ⟨rb, ro, hra, hjj⟩ := hrd.2.resolve_left (by omega)
        have a1 := (hjj k (by omega)).trans (ints_get hkl)
        rw [hra] at l0
        have hu := (HRU.out (rs.getD k 0) (getD_memD 0 hkl)).2
        have NX : Hid (scanK (setL v j L') (rs.take (k + 1)) = shadeV (scanK (setL v j L') (rs.take k)) (storeL (scanK (setL v j L') (rs.take k)).ph false (rs.getD k 0) (rs.getD k 0) (scanK (setL v j L') (rs.take k)).cells)) := Lib.hid (by rw [take_snoc' rs k 0 hkl, scanK_snoc])
        have HW2 := Lib.hid (hw.chs ((Ch.refl [] wr).drew))
        have HU2 := Lib.hid (HUN.out.trans (Un.ch ((Ch.refl [] wr).drew)))
        have gk := HGK.out k
        obtain ⟨e3, e4⟩ := HKC.out k
        have WD := words_any HW2.out (by rw [e3]; exact gk.inr) (by rw [e3]; exact gk.nc) (by rw [e4]; exact gk.greyLen) (rs.getD k 0) (rs.getD k 0) hu hu HB.out
        clear hw hsm hun e1 e2 e3 e4 hrd hjj hra hkl gk hu
        generalize rs.getD k 0 = x at *
        go_wp2_with fail
        refine wp_region_still_tail 15 (by kernel_rfl) (by kernel_rfl) ?_
        simp only [List.take_succ_cons, List.take_zero, List.drop_succ_cons, List.drop_zero]
        (iterate 15 still_step)
        refine wpStill_nil ?_
        change wpList _ _ _ _ _ wr.drew
        clear l0 a1
        generalize wr.drew = w4 at *
        go_wp2_with fail
        refine WD.mono ?_
        rintro e w5 ⟨rfl, O5, a5, k1, k2, k3⟩
        have K1 := Lib.hid k1
        have K2 := Lib.hid k2
        have K3 := Lib.hid k3
        clear WD k1 k2 k3
        go_wp2_with fail
        go_roundw
        case rel => exact ⟨k + 1, O5, a5, by go_num, by omega, by rw [NX.out]; exact K1.out, HSM.out.trans K2.out, HU2.out.trans K3.out⟩
        case measure => simp [intOf]; omega
      · have ltK : ¬ (k : Int) < nr := by omega
        obtain rfl : nr = k := by omega
        have et : rs.take nr = rs := List.take_of_length_le (by rw [HNR.out]; exact Nat.le_refl _)
        rw [et] at HWM
        clear hw hsm hun e1 e2 hrd et
        go_wp2_with fail
        go_ret
        exact ⟨rfl, by rw [HV2.out]; exact ⟨O2, a2, HWM.out, HSM.out, HUN.out⟩⟩
  · have HV2 : Hid (V' = v) := Lib.hid (by rw [HVV.out, if_neg h0])
    have e0 : v.lanes.length = 0 := by omega
    rw [e0] at c6
    clear e0 h0
    unfold stA
    unfold stA at hW
    clear h gv hs hal1 hbo hb hV'
    go_enter Tryd.func76, Tryd.ntmps76
    go_upto_region 1 with fail
    rw [← hW, ← HBO.out]
    clear hW
    obtain ⟨b0, b1, b2, b3, b4⟩ := st_box HBZ.out
    go_wp2_with fail
    go_ret
    exact ⟨rfl, by rw [HV2.out]; exact ⟨O, a, H1.out, SmA.refl a, HU1.out⟩⟩
theorem collect_any {w0 w : World} {O : Nat → Nat} {wp : Nat} {a : VA} {v : Vw} (h : WM w0 w O wp a v) (gv : GV v) (hb : Bnd w0) (s : S5) (hs : SI s) :
    Calls Tryd.prog 76 #[.pointer (some ⟨wp, 0, none⟩), .agg (stA s)] w fun e w' => e = .returned (.bool true) ∧ MW w0 w O w' wp a (collectS v s) := by
  by_cases h10 : s.kd = 10
  · exact coll10 h gv hb s hs h10
  by_cases h11 : s.kd = 11
  · exact coll11 h gv hb s hs h11
  by_cases h12 : s.kd = 12
  · exact coll12 h gv hb s hs h12
  exact coll0 h gv hb s hs ⟨h10, h11, h12⟩
end Go.Proofs.YtlhhcocdhkbdnaaDoor.Kp
