/-
  THE WALK of BarrierEnds.
-/
import Derived.Test.YtlhhcocdhkbdnaaDoorQEnds
set_option linter.unusedVariables false
set_option linter.unusedSimpArgs false
set_option maxRecDepth 100000
namespace Go.Proofs.YtlhhcocdhkbdnaaDoor.L13
open Go.RowKit Go.Proofs.YtlhhcocdhkbdnaaDoor.Wd Go.Proofs.YtlhhcocdhkbdnaaDoor.Hp Go.Proofs.YtlhhcocdhkbdnaaDoor.Gp Go.Proofs.YtlhhcocdhkbdnaaDoor.Sm Go.Proofs.YtlhhcocdhkbdnaaDoor.Gr Go.Proofs.YtlhhcocdhkbdnaaDoor.Bp Go.Proofs.YtlhhcocdhkbdnaaDoor.OV
set_option maxHeartbeats 4000000 in
theorem BarrierEnds_any (w : World) (a : VA) (v : Vw) (hv : VM w a v) (hg : VG v) (hc : VC a v) (hb : Bnd w) :
    Calls Tryd.prog 7 #[.agg (a.arr v)] w fun e w' => e = .returned (.bool true) ∧ Ch [] w w' := by
  obtain ⟨W, hW⟩ : ∃ W, W = w.alloc (.cells (a.arr v) 65) := ⟨_, rfl⟩
  have C0 : Ch [] w W := by rw [hW]; exact (Ch.refl _ _).alloc _
  have hbx : W.heap[w.heap.size]? = some (.cells (a.arr v) 65 (0, 0)) := by rw [hW]; exact heap_new w _
  have hsz : W.heap.size = w.heap.size + 1 := by rw [hW, World.size_alloc]
  have HBX := Lib.hid hbx
  have KX : Hid (∀ w1 : World, Ch [] W w1 → w1.cell? ⟨w.heap.size, 0, none⟩ = some (.slice a.ac v.cells.length a.cc) ∧ w1.cell? ⟨w.heap.size, 1, none⟩ = some (.int .u8 v.ph) ∧ w1.cell? ⟨w.heap.size, 2, none⟩ = some (.int .i64 v.sw) ∧ w1.cell? ⟨w.heap.size, 3, none⟩ = some (.slice a.ag v.grey.length a.cg) ∧ w1.cell? ⟨w.heap.size, 4, none⟩ = some (.slice a.agl v.globals.length a.cgl) ∧ w1.cell? ⟨w.heap.size, 5, none⟩ = some (.int .i64 v.laid) ∧ w1.cell? ⟨w.heap.size, 6, none⟩ = some (.slice a.al v.lanes.length a.cl)) := Lib.hid (fun w1 h1 => by
    have hh := h1.heap HBX.out (by simp)
    unfold VA.arr at hh
    exact ⟨cell_at hh, cell_at hh, cell_at hh, cell_at hh, cell_at hh, cell_at hh, cell_at hh⟩)
  have OF := ofView_any W a v (hv.ch C0) hc
  have HK := Lib.hid (fun (w1 : World) (h1 : Ch [] w w1) => known_any w1 (Bnd.ch hb h1 (by simp)))
  have HV := Lib.hid hv
  have HGV := Lib.hid hg
  have HB := Lib.hid hb
  have HC0 := Lib.hid C0
  have HSZ := Lib.hid hsz
  have HAR : Hid (a.arr v = #[.slice a.ac v.cells.length a.cc, .int .u8 v.ph, .int .i64 v.sw, .slice a.ag v.grey.length a.cg, .slice a.agl v.globals.length a.cgl, .int .i64 v.laid, .slice a.al v.lanes.length a.cl]) := Lib.hid rfl
  obtain ⟨ic, hci, hce⟩ := Option.map_eq_some_iff.1 infoCell
  simp only [Prod.mk.injEq] at hce
  obtain ⟨hc0, hc1, hc2⟩ := hce
  rw [HAR.out] at hW OF ⊢
  obtain ⟨k0, k1, k2, k3, k4, k5, k6⟩ := KX.out W (Ch.refl _ _)
  clear hv hg hc hb hbx C0 hsz
  go_enter Tryd.func7, Tryd.ntmps7
  go_wp2_with fail
  rw [← hW]
  clear hW
  refine OF.mono ?_
  rintro e w2 ⟨⟨m, rfl, hm⟩, c2⟩
  have H2 := Lib.hid c2
  clear OF c2 k0 k1 k2 k3 k4 k5 k6
  by_cases hbig : 20000 < m
  · have hbI : (20000 : Int) < m := by omega
    go_wp2_with fail
    go_ret
    exact ⟨rfl, HC0.out.trans' H2.out⟩
  · have hbI : ¬ (20000 : Int) < m := by omega
    have HR := Lib.hid (HGV.out.vr (hm (by omega)))
    have K := HK.out w2 (HC0.out.trans' H2.out)
    have n1 := HR.out.n1
    have n3 := HR.out.n3
    have n4 := HR.out.n4
    have n5 := HR.out.n5
    clear hm hbig
    go_wp2_with fail
    refine K.mono ?_
    rintro e w3 ⟨rfl, c3⟩
    have H3 := Lib.hid (H2.out.trans' c3)
    clear K c3 H2
    -- laid: all; nothing grey
    have hb3 := H3.out.heap HBX.out (by simp)
    rw [HAR.out] at hb3
    have x0 := cell_at (i := 0) hb3
    have x3 := cell_at (i := 3) hb3
    have x4 := cell_at (i := 4) hb3
    have x5 := cell_at (i := 5) hb3
    have f3 := free_at (i := 3) hb3
    have f5 := free_at (i := 5) hb3
    have hb4 := heap_set (i := 3) (heap_set (i := 5) hb3 (.int .i64 (v.globals.length : Int))) (.slice none 0 0)
    simp only [List.setIfInBounds_toArray, List.set_cons_zero, List.set_cons_succ] at hb4
    simp only [List.getElem?_toArray, List.getElem?_cons_zero, List.getElem?_cons_succ] at x0 x3 x4 x5
    have HB4 := Lib.hid hb4
    have C4 : Hid (Ch [w.heap.size] w3 ((w3.setCell ⟨w.heap.size, 5, none⟩ (.int .i64 (v.globals.length : Int))).setCell ⟨w.heap.size, 3, none⟩ (.slice none 0 0))) := Lib.hid (((Ch.refl _ _).setCell _ _ (.inl (by simp))).setCell _ _ (.inl (by simp)))
    have H4 : Hid (Ch [] w ((w3.setCell ⟨w.heap.size, 5, none⟩ (.int .i64 (v.globals.length : Int))).setCell ⟨w.heap.size, 3, none⟩ (.slice none 0 0))) := Lib.hid ((HC0.out.trans' H3.out).trans C4.out (fun x hx => .inr (by simp at hx; subst hx; exact Nat.le_refl _)))
    have HCL := Lib.hid (HV.out.ch H4.out).cells.rd
    have hone := flat_one v.cells
    have HONE := Lib.hid hone
    have HS4 : Hid (w.heap.size < ((w3.setCell ⟨w.heap.size, 5, none⟩ (.int .i64 (v.globals.length : Int))).setCell ⟨w.heap.size, 3, none⟩ (.slice none 0 0)).heap.size) := Lib.hid (lt_of hb4)
    clear hb3 hb4 hone KX
    obtain ⟨n, hn⟩ : ∃ n, n = v.cells.length := ⟨_, rfl⟩
    obtain ⟨nl, hnl⟩ : ∃ nl, nl = v.lanes.length := ⟨_, rfl⟩
    obtain ⟨ng, hng⟩ : ∃ ng, ng = v.globals.length := ⟨_, rfl⟩
    have HN := Lib.hid hn
    have HNL := Lib.hid hnl
    have HNG := Lib.hid hng
    rw [← hn] at n1 x0 HB4 HCL ⊢
    rw [← hnl] at n4 HB4 ⊢
    rw [← hng] at n3 x4 HB4 HCL H4 C4 HS4 ⊢
    clear hn hnl hng
    generalize v.grey.length = gl at *
    go_wp2_with (at_builtin; go_loud (refine wpList_append_copy _ rfl _ _ 25 rfl 58 ic _ 4 24 Tryd.underlying25 hci hc0 hc1 hc2 rfl (by decide) rfl a.ac n a.cc rfl (flat v.cells) HCL.out HONE.out (by unfold maxLen; omega) (by omega) ?_))
    intro v' w5 hq hr4 hc4 hq4
    have hsz4 : ((w3.setCell ⟨w.heap.size, 5, none⟩ (.int .i64 (ng : Int))).setCell ⟨w.heap.size, 3, none⟩ (.slice none 0 0)).heap.size = w3.heap.size := by simp [World.setCell]
    generalize hw4 : ((w3.setCell ⟨w.heap.size, 5, none⟩ (.int .i64 (ng : Int))).setCell ⟨w.heap.size, 3, none⟩ (.slice none 0 0)) = w4 at *
    have HQ4 : Hid (∀ q ∈ hq, w4.heap.size ≤ q ∧ q < w5.heap.size) := Lib.hid (fun q hm => by
      rcases hq4 with rfl | ⟨q', rfl, h1, h2⟩
      · cases hm
      · simp at hm; subst hm; exact ⟨by omega, h2⟩)
    have H5 := Lib.hid (H4.out.trans' hc4)
    have HB5 := Lib.hid (hc4.heap HB4.out (by simp))
    obtain ⟨a5, c5, rfl, _, _, _⟩ := hr4.rd
    have HROW5 : Hid (n = 0 ∨ ∃ q off arr, q ∈ hq ∧ a5 = some ⟨q, off, none⟩ ∧ w5.heap[q]? = some (.cells arr 58 (0, 0)) ∧ GbS v.cells off 0 arr) := Lib.hid (by
      obtain ⟨hl, ao, cap, he, g1, g2, g3, g4⟩ := hr4
      simp only [Value.slice.injEq, true_and] at he
      obtain ⟨rfl, rfl⟩ := he
      rcases g4 with g4 | ⟨q, off, arr', k1, k2, k3, k4, k5⟩
      · left; omega
      · exact .inr ⟨q, off, arr', k1, k2, k3, GbS.start (by rw [← HN.out]; exact k5)⟩)
    clear hr4 hc4 hq4 hw4 hsz4 x0 x3 x4 x5 f3 f5 HCL HONE C4 HB4
    go_wp2_with fail
    go_loopw [5] (fun i wr => ∃ j : Nat, i = .int .i64 j ∧ j ≤ n ∧ Ch hq w5 wr ∧ (n = 0 ∨ ∃ q off arr, q ∈ hq ∧ a5 = some ⟨q, off, none⟩ ∧ wr.heap[q]? = some (.cells arr 58 (0, 0)) ∧ GbS v.cells off j arr)) (fun i _ => n - (intOf i).toNat)
    case atStart => exact ⟨0, rfl, by omega, Ch.refl _ _, HROW5.out⟩
    case round =>
      obtain ⟨j, rfl, hj, hcx, hls⟩ := hrel
      have HCX := Lib.hid hcx
      clear HROW5
      by_cases hlt : j < n
      · as_aux_lemma =>
        have hjh : j < v.cells.length := by rw [← HN.out]; exact hlt
        have ltJ : (j : Int) < n := by omega
        obtain ⟨q, off, arr, hqm, hal, hh, hgb⟩ := hls.resolve_left (by omega)
        have HQM := Lib.hid hqm
        have HAL := Lib.hid hal
        have HH := Lib.hid hh
        have d1 := (cell_at (i := off + (j * 4 + 1)) hh).trans (hgb.get j 1 hjh (by omega))
        have f1 := free_at (i := off + (j * 4 + 1)) hh
        rw [if_neg (by omega)] at d1
        rw [← Nat.add_assoc] at d1 f1
        have HSK := Lib.hid (fun h => hgb.skip hjh h)
        have HNX := Lib.hid (fun h => hgb.next hjh h)
        rw [hal]
        generalize v.cells.getD j z = x at *
        obtain ⟨xk, xc, xa, xb⟩ := x
        simp only at HSK HNX
        simp only [celV, List.getElem?_cons_zero, List.getElem?_cons_succ] at d1
        clear hls hal hh hgb hcx hqm hjh
        by_cases c1 : xc = 1
        · subst c1
          go_wp2_with fail
          go_roundw
          case rel => exact ⟨j + 1, by go_num, by omega, HCX.out.setCell _ _ (.inl HQM.out), .inr ⟨q, off, _, HQM.out, by first | rfl | exact HAL.out, heap_set HH.out _, HNX.out rfl⟩⟩
          case measure => simp [intOf]; omega
        · have c1' : (xc == 1) = false := by simpa using c1
          go_wp2_with fail
          go_roundw
          case rel => exact ⟨j + 1, by go_num, by omega, HCX.out, .inr ⟨q, off, arr, HQM.out, by first | rfl | exact HAL.out, HH.out, HSK.out c1⟩⟩
          case measure => simp [intOf]; omega
      · as_aux_lemma =>
        obtain rfl : n = j := by omega
        have ltJ : ¬ (n : Int) < n := by omega
        have hb6 := hcx.heap HB5.out (fun hm => by have := (HQ4.out _ hm).1; have := HS4.out; omega)
        have x0 := cell_at (i := 0) hb6
        have f0 := free_at (i := 0) hb6
        have hb7 := heap_set (i := 0) hb6 (.slice a5 n c5)
        simp only [List.setIfInBounds_toArray, List.set_cons_zero, List.set_cons_succ] at hb7
        simp only [List.getElem?_toArray, List.getElem?_cons_zero, List.getElem?_cons_succ] at x0
        have x4 := cell_at (i := 4) hb7
        have x6 := cell_at (i := 6) hb7
        simp only [List.getElem?_toArray, List.getElem?_cons_zero, List.getElem?_cons_succ] at x4 x6
        have HB7 := Lib.hid hb7
        have H7 : Hid (Ch [] w (wr.setCell ⟨w.heap.size, 0, none⟩ (.slice a5 n c5))) := Lib.hid ((H5.out.trans hcx (fun x hx => .inr (by have := (HQ4.out x hx).1; have := H4.out.size; omega))).setCell _ _ (.inr (Nat.le_refl _)))
        have HCEL : Hid (∀ w1, Ch [w.heap.size] (wr.setCell ⟨w.heap.size, 0, none⟩ (.slice a5 n c5)) w1 → RdF w1 a5 (n * 4) (flat (v.cells.map gb)) []) := Lib.hid (fun w1 h1 => by
          rcases hls with h0 | ⟨q, off, arr, k1, rfl, k3, k4⟩
          · subst h0
            have : v.cells = [] := List.eq_nil_of_length_eq_zero HN.out.symm
            rw [this]
            exact ⟨rfl, .inl rfl⟩
          · have hq0 : q ≠ w.heap.size := fun e => by have := (HQ4.out q k1).1; have := HS4.out; omega
            have := (GbS.rd (by rw [← HN.out]; exact k4) (h1.heap ((heap_set_ne hq0).trans k3) (by simp; exact hq0)))
            rwa [List.length_map, ← HN.out] at this)
        have hglb := (HV.out.ch H7.out).globals
        rw [← HNG.out] at hglb
        have HGB := Lib.hid hglb.rd
        have H1C := Lib.hid (ints_one .u64 v.globals)
        obtain ⟨i0, hi, he⟩ := Option.map_eq_some_iff.1 infoWord
        simp only [Prod.mk.injEq] at he
        obtain ⟨hz0, hz1, hz2⟩ := he
        clear hb6 hb7 hcx hls hglb HCX HB5 H5
        go_wp2_with (at_builtin; go_loud (refine wpList_append_copy _ rfl _ _ 62 rfl 24 i0 _ 1 8 Tryd.underlying62 hi hz0 hz1 hz2 rfl (by decide) rfl a.agl ng a.cgl rfl (ints .u64 v.globals) (by have := HGB.out; rwa [Nat.mul_one]) H1C.out (by unfold maxLen; omega) (by omega) ?_))
        intro v' w7 rq hr4 hc4 hq4
        have hsz6 : (wr.setCell ⟨w.heap.size, 0, none⟩ (.slice a5 n c5)).heap.size = wr.heap.size := by simp [World.setCell]
        generalize hw6 : wr.setCell ⟨w.heap.size, 0, none⟩ (.slice a5 n c5) = w6 at *
        obtain ⟨a7, c7, rfl, _, _, _⟩ := hr4.rd
        have HRT0 : Hid ((rt v 0).length = ng ∧ rt v 0 = v.globals) := Lib.hid (by simp [rt, HNG.out])
        have E7 : Hid (EL w6 w7 v a 0 (.slice none 0 0) [] (.slice a7 ng c7) rq) := Lib.hid ⟨Row.nil _ _ _ _, by rw [HRT0.out.1, HRT0.out.2]; exact hr4, (by simp), fun q hm => by
          rcases hq4 with rfl | ⟨q', rfl, h1, h2⟩
          · cases hm
          · simp at hm; subst hm; exact ⟨by omega, h2⟩, (by simp), hc4⟩
        have KB : Hid (∀ w1, Ch [] w6 w1 → w1.heap[w.heap.size]? = some (.cells #[.slice a5 n c5, .int .u8 v.ph, .int .i64 v.sw, .slice none 0 0, .slice a.agl ng a.cgl, .int .i64 (ng : Int), .slice a.al nl a.cl] 65 (0, 0))) := Lib.hid (fun w1 h1 => h1.heap HB7.out (by simp))
        obtain ⟨il, hli, hle⟩ := Option.map_eq_some_iff.1 infoLane
        simp only [Prod.mk.injEq] at hle
        obtain ⟨hl0, hl1, hl2⟩ := hle
        have HS6 : Hid (w.heap.size < w6.heap.size) := Lib.hid (lt_of HB7.out)
        clear hr4 hc4 hq4 x0 f0 x4 x6 hw6 HGB H1C HB7 hsz6
        go_wp2_with fail
        go_loopw [8, 6, 7] (fun i lv rv wr => ∃ (j : Nat) (lq rq : List Nat), i = .int .i64 j ∧ j ≤ nl ∧ EL w6 wr v a j lv lq rv rq) (fun i _ _ _ => nl - (intOf i).toNat)
        case atStart => exact ⟨0, [], rq, rfl, by omega, E7.out⟩
        case round =>
          obtain ⟨j, lq, rq, rfl, hj, hel⟩ := hrel
          clear E7
          obtain ⟨al, cl, rfl, l1, l2, _⟩ := hel.row.rd
          obtain ⟨ar, cr, rfl, l3, l4, _⟩ := hel.rts.rd
          have HE := Lib.hid hel
          have HCW := Lib.hid (H7.out.trans' hel.ch)
          have hb := KB.out wr hel.ch
          have x6 := cell_at (i := 6) hb
          simp only [List.getElem?_toArray, List.getElem?_cons_zero, List.getElem?_cons_succ] at x6
          have hrl := rt_len v j
          rw [← HNG.out] at hrl
          clear hel hb
          by_cases hlt : j < nl
          · as_aux_lemma =>
            have hjl : j < v.lanes.length := by rw [← HNL.out]; exact hlt
            have ltJ : (j : Int) < nl := by omega
            obtain ⟨b, off, hal, c1, c2, c3⟩ := (HV.out.ch HCW.out).lane j hjl
            have hm : (v.lanes.getD j ln0).roots.length ≤ 100000 := by have := rootsN_mem (lane_mem hjl); omega
            have HRD := Lib.hid (fun (w6' : World) (h6 : Ch [] w w6') => ((HV.out.ch h6).roots j hjl).rd)
            have HPU := Lib.hid (fun (wa w1 w2 : World) (lv' rv' : Value) (lq' rq' : List Nat) (h0 : EL w6 wa v a j (.slice al j cl) lq (.slice ar (rt v j).length cr) rq) h1 h2 h3 h4 h5 h6 => EL.push (w1 := w1) (w2 := w2) (lv' := lv') (rv' := rv') (lq' := lq') (rq' := rq') h0 hjl h1 h2 h3 h4 h5 h6)
            unfold lsE at HPU
            rw [hal] at x6
            rw [hal]
            clear hal hjl
            generalize v.lanes.getD j ln0 = x at *
            obtain ⟨xr, xs, xe⟩ := x
            simp only at hm c1 c2 c3 HRD HPU
            generalize hxl : xr.length = xl at *
            have HXL := Lib.hid hxl
            clear hxl
            generalize hrt : (rt v j).length = rl at *
            have HRT := Lib.hid hrt
            clear hrt
            generalize a.la j = xa at *
            generalize a.lc j = xcap at *
            have h8 := heap_new wr (.cells #[.slice xa xl xcap, .bool true, .bool xe] 71)
            have C8 : Ch [] wr (wr.alloc (.cells #[.slice xa xl xcap, .bool true, .bool xe] 71)) := (Ch.refl [] wr).alloc _
            have hs8 : (wr.alloc (.cells #[.slice xa xl xcap, .bool true, .bool xe] 71)).heap.size = wr.heap.size + 1 := by simp [World.setCell]
            have C9 : Ch [] wr ((wr.alloc (.cells #[.slice xa xl xcap, .bool true, .bool xe] 71)).alloc (.cells #[.slice xa xl xcap, .bool true, .bool xe] 71)) := C8.alloc _
            have HE9 := Lib.hid (HE.out.chg C9)
            have HR1 := Lib.hid HE9.out.row
            have HN2 := Lib.hid (newL (w := (wr.alloc (.cells #[.slice xa xl xcap, .bool true, .bool xe] 71))) (b := wr.heap.size + 1) hs8.symm [.slice xa xl xcap, .bool true, .bool xe] 71)
            have HL8 := Lib.hid (fun w1 (h1 : Ch lq ((wr.alloc (.cells #[.slice xa xl xcap, .bool true, .bool xe] 71)).alloc (.cells #[.slice xa xl xcap, .bool true, .bool xe] 71)) w1) => h1.heap (heap_old h8) (fun hm => by have := (HE.out.lf _ hm).2; omega))
            have HC9 := Lib.hid C9
            have HS9 : Hid (((wr.alloc (.cells #[.slice xa xl xcap, .bool true, .bool xe] 71)).alloc (.cells #[.slice xa xl xcap, .bool true, .bool xe] 71)).heap.size = wr.heap.size + 2) := Lib.hid (by rw [World.size_alloc, hs8])
            have H1C := Lib.hid (ints_one .u64 xr)
            clear C8 C9 h8 hs8
            go_wp2_with (at_builtin; go_loud (refine wpList_append_row _ rfl _ _ 63 rfl 71 il _ 3 32 Tryd.underlying63 hli hl0 hl1 hl2 rfl (by decide) rfl HR1.out ⟨wr.heap.size + 1, 0, none⟩ 1 1 [.slice xa xl xcap, .bool true, .bool xe] rfl rfl HN2.out (by intro u hu; simp at hu; rcases hu with rfl | rfl | rfl <;> rfl) (by unfold maxLen; omega) (by omega) ?_))
            intro v' w10 lq' hr4 hc4 hq4
            obtain ⟨ao5, cap5, rfl, _⟩ := hr4.rd
            have h10 := HL8.out w10 hc4
            have g0 := cell_at (i := 0) h10
            simp only [List.getElem?_toArray, List.getElem?_cons_zero, List.getElem?_cons_succ] at g0
            have HR10 := Lib.hid hr4
            have HC10 := Lib.hid hc4
            have HQ10 : Hid (lq' = lq ∨ ∃ q', lq' = [q'] ∧ ((wr.alloc (.cells #[.slice xa xl xcap, .bool true, .bool xe] 71)).alloc (.cells #[.slice xa xl xcap, .bool true, .bool xe] 71)).heap.size ≤ q' ∧ q' < w10.heap.size) := Lib.hid (by rw [HS9.out]; exact hq4)
            have CW10 : Hid (Ch [] w w10) := Lib.hid ((HCW.out.trans' HC9.out).trans hc4 (fun x hx => .inr (by have := (HE.out.lf x hx).1; have := HS6.out; omega)))
            have hrr := HE9.out.rts.ch hc4 (fun q hq hm => HE.out.d q hm hq)
            rw [HRT.out] at hrr
            have HRR := Lib.hid hrr
            have HRDD := Lib.hid (HRD.out w10 CW10.out)
            clear hr4 hc4 hq4 h10 hrr HR1 HN2 x6 c1 c2 c3
            go_wp2_with (at_builtin; go_loud (refine wpList_append_list _ rfl _ _ 62 rfl 24 i0 _ 1 8 Tryd.underlying62 hi hz0 hz1 hz2 rfl (by decide) rfl HRR.out xa xl xcap rfl (ints .u64 xr) (by have := HRDD.out; rwa [Nat.mul_one]) H1C.out (by unfold maxLen; omega) (by omega) ?_))
            intro v' w11 rq' hr4 hc4 hq4
            have Z := Lib.hid (HPU.out _ w10 w11 _ v' lq' rq' HE9.out HR10.out HC10.out HQ10.out hr4 hc4 hq4)
            obtain ⟨ao6, cap6, rfl, _⟩ := hr4.rd
            clear hr4 hc4 hq4 g0
            go_wp2_with fail
            go_roundw
            case rel => exact ⟨j + 1, lq', rq', by go_num, by omega, Z.out⟩
            case measure => simp [intOf]; omega
          · as_aux_lemma =>
            obtain rfl : nl = j := by omega
            have ltJ : ¬ (nl : Int) < nl := by omega
            have hb := KB.out wr HE.out.ch
            have f6 := free_at (i := 6) hb
            have hb9 := heap_set (i := 6) hb (.slice al nl cl)
            simp only [List.setIfInBounds_toArray, List.set_cons_zero, List.set_cons_succ] at hb9
            have HB9 := Lib.hid hb9
            obtain ⟨w9, hw9⟩ : ∃ w9, w9 = wr.setCell ⟨w.heap.size, 6, none⟩ (.slice al nl cl) := ⟨_, rfl⟩
            have C9 : Ch [w.heap.size] w6 w9 := by rw [hw9]; exact (HE.out.ch.mono (by simp)).setCell _ _ (.inl (by simp))
            have H9 : Hid (Ch [] w w9) := Lib.hid (H7.out.trans C9 (fun x hx => .inr (by simp at hx; subst hx; exact Nat.le_refl _)))
            have hcel := HCEL.out w9 C9
            have hrow : Hp.Rd w9 al (nl * 3) ((List.range nl).flatMap (lsE v a)) := by
              have h1 := (HE.out.row.keep (w' := w9) (fun q hq o ho => by rw [hw9]; exact (heap_set_ne (by have := (HE.out.lf q hq).1; have := HS6.out; omega)).trans ho)).rd
              obtain ⟨_, _, he, _, _, h2⟩ := h1
              simp only [Value.slice.injEq, true_and] at he
              obtain ⟨rfl, rfl⟩ := he
              exact h2
            have hrt : Hp.Rd w9 ar (rt v nl).length (ints .u64 (rt v nl)) := by
              have h1 := (HE.out.rts.keep (w' := w9) (fun q hq o ho => by rw [hw9]; exact (heap_set_ne (by have := (HE.out.rf q hq).1; have := HS6.out; omega)).trans ho)).rd
              obtain ⟨_, _, he, _, _, h2⟩ := h1
              simp only [Value.slice.injEq, true_and] at he
              obtain ⟨rfl, rfl⟩ := he
              rwa [Nat.mul_one] at h2
            have HVE := Lib.hid (vm_ends (ah := a5) (ch := c5) (al := al) (cl := cl) (HV.out.ch H9.out) (by rw [List.length_map, ← HN.out]; exact hcel) (by rw [← HNL.out]; exact hrow))
            have HCE := Lib.hid hcel
            have HRT := Lib.hid hrt
            rw [← hw9] at HB9
            clear hb hb9 hcel hrow hrt C9
            have HEN : Hid ((endV v).cells.length = n) := Lib.hid (by unfold endV; rw [List.length_map]; exact HN.out.symm)
            have HEA : Hid ((ena a a5 c5 al cl).arr (endV v) = #[.slice a5 n c5, .int .u8 v.ph, .int .i64 v.sw, .slice none 0 0, .slice a.agl ng a.cgl, .int .i64 (ng : Int), .slice al nl cl]) := Lib.hid (by simp only [VA.arr, ena, endV, List.length_map, List.length_nil, ← HN.out, ← HNL.out, ← HNG.out])
            have GA := Guarded_any w9 (ena a a5 c5 al cl) (endV v) (Bnd.ch HB.out H9.out (by simp)) HVE.out (VR.ends HR.out)
            have HHA := Lib.hid (fun (w1 : World) (c : Ch [] w9 w1) => Holds_any w1 (ena a a5 c5 al cl) (endV v) (Bnd.ch HB.out (H9.out.trans' c) (by simp)) (HVE.out.ch c) (VR.ends HR.out))
            have HRC := Lib.hid (fun (w1 : World) (c : Ch [] w9 w1) (hk : VOk (endV v)) => R10.Reach_any w1 a5 c5 (endV v).cells ar (rt v nl).length cr (rt v nl) (by rw [HEN.out]; omega) (by omega) (by have := HCE.out.ch c (by simp) (T' := []); rw [HEN.out]; exact this) (RdF.ch ⟨HRT.out.1, HRT.out.2.imp id fun ⟨b, off, e, hj⟩ => ⟨b, off, e, by simp, hj⟩⟩ c (by simp)) (VR.ends HR.out).cells (by have := (VR.ends HR.out).rootU; rw [rt_ends, ← HNL.out] at this; exact this) (by have := hk.may hk.rootWords; rw [rt_ends, ← HNL.out] at this; exact this))
            unfold GdPost at GA
            unfold HPost at HHA
            rw [HEA.out] at GA
            rw [HEA.out] at HHA
            rw [HEN.out] at GA
            rw [HEN.out] at HRC
            have KE : Hid (∀ w1, Ch [] w9 w1 → w1.cell? ⟨w.heap.size, 0, none⟩ = some (.slice a5 n c5) ∧ w1.cell? ⟨w.heap.size, 1, none⟩ = some (.int .u8 v.ph) ∧ w1.cell? ⟨w.heap.size, 2, none⟩ = some (.int .i64 v.sw) ∧ w1.cell? ⟨w.heap.size, 3, none⟩ = some (.slice none 0 0) ∧ w1.cell? ⟨w.heap.size, 4, none⟩ = some (.slice a.agl ng a.cgl) ∧ w1.cell? ⟨w.heap.size, 5, none⟩ = some (.int .i64 (ng : Int)) ∧ w1.cell? ⟨w.heap.size, 6, none⟩ = some (.slice al nl cl)) := Lib.hid (fun w1 h1 => by
              have hh := h1.heap HB9.out (by simp)
              exact ⟨cell_at hh, cell_at hh, cell_at hh, cell_at hh, cell_at hh, cell_at hh, cell_at hh⟩)
            have HCELLS : Hid (∀ w1, Ch [] w9 w1 → ∀ j, j < n → ∃ b off, a5 = some ⟨b, off, none⟩ ∧ ∀ t, t < 4 → w1.cell? ⟨b, off + (j * 4 + t), none⟩ = (celV ((endV v).cells.getD j z))[t]?) := Lib.hid (fun w1 h1 j hj => by
              obtain ⟨b, off, ha, _, hc⟩ := (HCE.out.ch h1 (by simp) (T' := [])).2.resolve_left (by omega)
              exact ⟨b, off, ha, fun t ht => (hc _ (by omega)).trans (flat_get _ j t (by rw [List.length_map]; have := HN.out; omega) ht)⟩)
            clear HE HCEL HRT HCE HVE
            generalize hrln : (rt v nl).length = rln at *
            clear hrln
            obtain ⟨k0, k1, k2, k3, k4, k5, k6⟩ := KE.out w9 (Ch.refl _ _)
            rw [hw9] at k0 k1 k2 k3 k4 k5 k6
            go_wp2_with fail
            rw [← hw9]
            clear hw9 f6 x6 k0 k1 k2 k3 k4 k5 k6
            refine GA.mono ?_
            rintro e w10 ⟨c10, hgd⟩
            have H10 := Lib.hid c10
            obtain ⟨k0, k1, k2, k3, k4, k5, k6⟩ := KE.out w10 c10
            have HA := HHA.out w10 c10
            clear GA HHA c10
            rcases hgd with ⟨hm, rfl⟩ | ⟨hm, m1, m2, rfl, g1, g2, g3, g4, g5⟩
            · as_aux_lemma =>
              rw [show holdsB (endV v) = false by simp [holdsB, hm], show holdsI (endV v) = 0 by simp [holdsI, hm], show holdsE (endV v) = 130 by simp [holdsE, hm]] at HA
              clear hm
              go_wp2_with fail
              refine HA.mono ?_
              rintro e w11 ⟨rfl, c11⟩
              have H11 := Lib.hid (H9.out.trans' (H10.out.trans' c11))
              clear HA c11 k0 k1 k2 k3 k4 k5 k6
              go_wp2_with fail
              go_ret
              exact ⟨by simp, H11.out⟩
            · as_aux_lemma =>
              have HOK := Lib.hid (mayV_ok hm)
              have HM1 := Lib.hid g1
              rw [show holdsE (endV v) = 0 by simp [holdsE, hm]] at HA
              have HHB : Hid (holdsB (endV v) = (!onP v.ph || (holdsF (endV v)).isNone)) := Lib.hid (by simp [holdsB, hm]; rfl)
              have HHI : Hid (holdsI (endV v) = if onP v.ph then (holdsF (endV v)).getD 0 else 0) := Lib.hid (by simp [holdsI, hm]; rfl)
              clear hm g1 g2 g3 g4 g5
              generalize hib : holdsB (endV v) = ib at *
              generalize hii : holdsI (endV v) = ii at *
              clear hib hii
              go_wp2_with fail
              refine HA.mono ?_
              rintro e w11 ⟨rfl, c11⟩
              have H11 := Lib.hid (H10.out.trans' c11)
              have HM := Lib.hid (c11.heap HM1.out (by simp))
              clear HA c11 k0 k1 k2 k3 k4 k5 k6 HM1 H10
              go_wp2_with fail
              go_loopw [16] (fun i wr => ∃ j : Nat, i = .int .i64 j ∧ j ≤ n ∧ Ch [] w11 wr) (fun i _ => n - (intOf i).toNat)
              case atStart => exact ⟨0, rfl, by omega, Ch.refl _ _⟩
              case round =>
                obtain ⟨j, rfl, hj, hc⟩ := hrel
                have HC := Lib.hid hc
                by_cases hlt : j < n
                · as_aux_lemma =>
                  have ltJ : (j : Int) < n := by omega
                  have b1 := cell_at (i := j) (hc.heap HM.out (by simp))
                  rw [bv_get (by unfold byL; rw [walkF_len, HEN.out]; exact hlt), ends_by v j (by rw [HEN.out]; exact hlt)] at b1
                  clear hc
                  go_wp2_with fail
                  go_roundw
                  case rel => exact ⟨j + 1, by go_num, by omega, HC.out⟩
                  case measure => simp [intOf]; omega
                · as_aux_lemma =>
                  obtain rfl : n = j := by omega
                  have ltJ : ¬ (n : Int) < n := by omega
                  have H12 := Lib.hid (H11.out.trans' hc)
                  obtain ⟨k0, k1, k2, k3, k4, k5, k6⟩ := KE.out _ H12.out
                  clear hc HC HM
                  by_cases hon : onP v.ph = true
                  · as_aux_lemma =>
                    have HONE2 := Lib.hid hon
                    have RC := HRC.out _ H12.out HOK.out
                    have hp12 : v.ph = 1 ∨ v.ph = 2 := by unfold onP at hon; simpa using hon
                    have HHB2 : Hid (ib = (holdsF (endV v)).isNone) := Lib.hid (by rw [HHB.out, hon]; rfl)
                    have HHI2 : Hid (ii = (holdsF (endV v)).getD 0) := Lib.hid (by rw [HHI.out, if_pos hon])
                    have HLV : Hid (∀ i, i < n → ib = true → whiteC ((endV v).cells.getD i z) = true → (order (endV v).cells (rt v nl)).1.getD i true = false) := Lib.hid (fun i hi h1 h2 => by
                      have h3 := HHB2.out
                      rw [h1] at h3
                      have := ends_ok HOK.out (by simpa using h3.symm) i (by rw [HEN.out]; exact hi) h2
                      rwa [rt_ends, ← HNL.out] at this)
                    have HLL : Hid ((order (endV v).cells (rt v nl)).1.length = n) := Lib.hid (by
                      have := Gp.order_len (HOK.out.may HOK.out.rootWords)
                      rwa [rt_ends, ← HNL.out, HEN.out] at this)
                    have HBAD : Hid (ib = false → ∃ i, i < n ∧ ii = i ∧ whiteC ((endV v).cells.getD i z) = true) := Lib.hid (fun h => by
                      have h3 := HHB2.out
                      rw [h] at h3
                      have h4 := HHI2.out
                      cases hf : holdsF (endV v) with
                      | none => rw [hf] at h3; simp at h3
                      | some i =>
                        rw [hf] at h4
                        have := ends_bad i hf
                        rw [HEN.out] at this
                        exact ⟨i, this.1, by simpa using h4, this.2⟩)
                    clear hon HHB HHI HHB2 HHI2
                    rcases hp12 with hp | hp
                    all_goals
                      rw [hp] at k1 ⊢
                      clear hp
                      go_wp2_with fail
                      refine RC.mono ?_
                      rintro e w13 ⟨m3, rfl, g1, g2, g3⟩
                      have HM3 := Lib.hid g1
                      have H13 := Lib.hid (H12.out.trans' g2)
                      clear RC g1 g2 g3 k0 k1 k2 k3 k4 k5 k6
                      go_wp2_with fail
                      go_loopw [18] (fun i wr => ∃ j : Nat, i = .int .i64 j ∧ j ≤ n ∧ Ch [] w13 wr) (fun i _ => n - (intOf i).toNat)
                      case atStart => exact ⟨0, rfl, by omega, Ch.refl _ _⟩
                      case round =>
                        obtain ⟨j, rfl, hj, hc⟩ := hrel
                        have HC := Lib.hid hc
                        by_cases hlt : j < n
                        · as_aux_lemma =>
                          have ltK : (j : Int) < n := by omega
                          have b1 := cell_at (i := j) (hc.heap HM3.out (by simp))
                          rw [bv_get (by rw [HLL.out]; exact hlt)] at b1
                          obtain ⟨bh, offh, ha, hA⟩ := HCELLS.out _ (H13.out.trans' hc) j hlt
                          have d0 := hA 0 (by omega)
                          have d1 := hA 1 (by omega)
                          have HLJ := Lib.hid (HLV.out j hlt)
                          rw [ha]
                          clear ha hA hc
                          generalize (endV v).cells.getD j z = x at *
                          obtain ⟨xk, xc, xa, xb⟩ := x
                          simp only [celV, List.getElem?_cons_zero, List.getElem?_cons_succ, Nat.add_zero, ← Nat.add_assoc] at d0 d1
                          unfold whiteC at HLJ
                          simp only at HLJ
                          generalize (order (endV v).cells (rt v nl)).1.getD j true = lvb at *
                          cases lvb
                          · go_wp2_with fail
                            go_roundw
                            case rel => exact ⟨j + 1, by go_num, by omega, HC.out⟩
                            case measure => simp [intOf]; omega
                          · by_cases k00 : xk = 0
                            · subst k00
                              go_wp2_with fail
                              go_roundw
                              case rel => exact ⟨j + 1, by go_num, by omega, HC.out⟩
                              case measure => simp [intOf]; omega
                            · have k0' : (xk != 0) = true := by simpa using k00
                              by_cases c00 : xc = 0
                              · subst c00
                                have hib : ib = false := by
                                  cases ib with
                                  | false => rfl
                                  | true => exact absurd (HLJ.out rfl (by rw [k0']; rfl)) (by simp)
                                rw [hib]
                                go_wp2_with fail
                                go_roundw
                                case rel => exact ⟨j + 1, by go_num, by omega, HC.out⟩
                                case measure => simp [intOf]; omega
                              · have c0' : (xc == 0) = false := by simpa using c00
                                go_wp2_with fail
                                go_roundw
                                case rel => exact ⟨j + 1, by go_num, by omega, HC.out⟩
                                case measure => simp [intOf]; omega
                        · as_aux_lemma =>
                          have ltK : ¬ (j : Int) < n := by omega
                          have CF : Hid (Ch [] w wr) := Lib.hid (H9.out.trans' (H13.out.trans' hc))
                          cases hib : ib
                          · obtain ⟨i, hi, hie, hwh⟩ := HBAD.out hib
                            obtain ⟨bh, offh, ha, hA⟩ := HCELLS.out _ (H13.out.trans' hc) i hi
                            have d0 := hA 0 (by omega)
                            have d1 := hA 1 (by omega)
                            have ltI : (i : Int) < n := by omega
                            rw [ha, hie]
                            clear ha hA hc hie hib HBAD HLV
                            generalize (endV v).cells.getD i z = x at *
                            obtain ⟨xk, xc, xa, xb⟩ := x
                            simp only [celV, List.getElem?_cons_zero, List.getElem?_cons_succ, Nat.add_zero, ← Nat.add_assoc] at d0 d1
                            unfold whiteC at hwh
                            simp only [Bool.and_eq_true, bne_iff_ne, beq_iff_eq] at hwh
                            obtain ⟨hk0, rfl⟩ := hwh
                            have k0' : (xk != 0) = true := by simpa using hk0
                            clear hk0
                            go_wp2_with fail
                            go_ret
                            exact ⟨by simp, CF.out⟩
                          · clear hc HBAD HLV hib
                            go_wp2_with fail
                            go_ret
                            exact ⟨by simp, CF.out⟩
                  · have hno : onP v.ph = false := by simpa using hon
                    have hb' : ib = true := by rw [HHB.out, hno]; rfl
                    have hi' : ii = 0 := by rw [HHI.out, hno]; rfl
                    have p1 : (v.ph == 1) = false := by unfold onP at hno; simp only [Bool.or_eq_false_iff] at hno; exact hno.1
                    have p2 : (v.ph == 2) = false := by unfold onP at hno; simp only [Bool.or_eq_false_iff] at hno; exact hno.2
                    have q1 : (v.ph != 1) = true := by simpa using p1
                    have q2 : (v.ph != 2) = true := by simpa using p2
                    clear p1 p2
                    have CF : Hid (Ch [] w wr) := Lib.hid (H9.out.trans' H12.out)
                    rw [hb', hi']
                    clear hon hno hb' hi' HHB HHI
                    go_wp2_with fail
                    go_ret
                    exact ⟨by simp, CF.out⟩
end Go.Proofs.YtlhhcocdhkbdnaaDoor.L13
