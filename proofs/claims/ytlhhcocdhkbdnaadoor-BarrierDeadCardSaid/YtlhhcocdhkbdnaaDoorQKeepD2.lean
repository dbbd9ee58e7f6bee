/-
  THE WALK of BarrierDead.
-/
import Derived.Test.YtlhhcocdhkbdnaaDoorQKeepDM
set_option linter.unusedVariables false
set_option linter.unusedSimpArgs false
set_option maxRecDepth 100000
namespace Go.Proofs.YtlhhcocdhkbdnaaDoor.Kp
open Go.RowKit Go.Proofs.YtlhhcocdhkbdnaaDoor.Wd Go.Proofs.YtlhhcocdhkbdnaaDoor.Hp Go.Proofs.YtlhhcocdhkbdnaaDoor.Gp Go.Proofs.YtlhhcocdhkbdnaaDoor.Sm Go.Proofs.YtlhhcocdhkbdnaaDoor.Gr Go.Proofs.YtlhhcocdhkbdnaaDoor.Bp Go.Proofs.YtlhhcocdhkbdnaaDoor.Own
set_option maxHeartbeats 16000000 in
theorem BarrierDead_any (w : World) (a : VA) (v : Vw) (hv : VM w a v) (hg : OV.VG v) (hc : OV.VC a v) (hb : Bnd w) (so : Option Addr) (sl scap : Nat) (ss : List S5) (hs : Sts w so sl ss) :
    Calls Tryd.prog 9 #[.agg (a.arr v), .slice so sl scap] w fun e w' => e = .returned (.bool true) ∧ Ch [] w w' := by
  obtain ⟨W, hW⟩ : ∃ W, W = w.alloc (.cells (a.arr v) 65) := ⟨_, rfl⟩
  have C0 : Ch [] w W := by rw [hW]; exact (Ch.refl _ _).alloc _
  have hbx : W.heap[w.heap.size]? = some (.cells (a.arr v) 65 (0, 0)) := by rw [hW]; exact heap_new w _
  have HBX := Lib.hid hbx
  have KX : Hid (∀ w1 : World, Ch [] W w1 → w1.cell? ⟨w.heap.size, 0, none⟩ = some (.slice a.ac v.cells.length a.cc) ∧ w1.cell? ⟨w.heap.size, 1, none⟩ = some (.int .u8 v.ph) ∧ w1.cell? ⟨w.heap.size, 2, none⟩ = some (.int .i64 v.sw) ∧ w1.cell? ⟨w.heap.size, 3, none⟩ = some (.slice a.ag v.grey.length a.cg) ∧ w1.cell? ⟨w.heap.size, 4, none⟩ = some (.slice a.agl v.globals.length a.cgl) ∧ w1.cell? ⟨w.heap.size, 5, none⟩ = some (.int .i64 v.laid) ∧ w1.cell? ⟨w.heap.size, 6, none⟩ = some (.slice a.al v.lanes.length a.cl)) := Lib.hid (fun w1 h1 => by
    have hh := h1.heap HBX.out (by simp)
    unfold VA.arr at hh
    exact ⟨cell_at hh, cell_at hh, cell_at hh, cell_at hh, cell_at hh, cell_at hh, cell_at hh⟩)
  have OF := L13.ofView_eq W a v (hv.ch C0) hc
  have HK := Lib.hid (fun (w1 : World) (h1 : Ch [] w w1) => L13.known_any w1 (Bnd.ch hb h1 (by simp)))
  have HV := Lib.hid hv
  have HGV := Lib.hid hg
  have HB := Lib.hid hb
  have HC0 := Lib.hid C0
  have HS := Lib.hid hs
  have HAR : Hid (a.arr v = #[.slice a.ac v.cells.length a.cc, .int .u8 v.ph, .int .i64 v.sw, .slice a.ag v.grey.length a.cg, .slice a.agl v.globals.length a.cgl, .int .i64 v.laid, .slice a.al v.lanes.length a.cl]) := Lib.hid rfl
  have HNC : Hid (v.cells.length = v.cells.length) := Lib.hid rfl
  rw [HAR.out] at hW OF ⊢
  obtain ⟨k0, k1, k2, k3, k4, k5, k6⟩ := KX.out W (Ch.refl _ _)
  clear hv hg hc hb hbx C0 hs
  go_enter Tryd.func9, Tryd.ntmps9
  go_wp2_with fail
  rw [← hW]
  clear hW
  refine OF.mono ?_
  rintro e w2 ⟨⟨m, rfl, hm⟩, c2⟩
  have H2 := Lib.hid c2
  clear OF c2 k0 k1 k2 k3 k4 k5 k6
  obtain ⟨k0, k1, k2, k3, k4, k5, k6⟩ := KX.out w2 H2.out
  by_cases g1 : 1000 < m
  · have gI : (1000 : Int) < m := by omega
    clear hm g1
    go_wp2_with fail
    go_ret
    exact ⟨rfl, HC0.out.trans' H2.out⟩
  · have gI : ¬ (1000 : Int) < m := by omega
    by_cases g2 : 60 < v.cells.length
    · have gJ : (60 : Int) < v.cells.length := by omega
      clear hm g1 g2
      go_wp2_with fail
      go_ret
      exact ⟨rfl, HC0.out.trans' H2.out⟩
    · have gJ : ¬ (60 : Int) < v.cells.length := by omega
      by_cases g3 : 8 < v.lanes.length
      · have gK : (8 : Int) < v.lanes.length := by omega
        clear hm g1 g2 g3
        go_wp2_with fail
        go_ret
        exact ⟨rfl, HC0.out.trans' H2.out⟩
      · have gK : ¬ (8 : Int) < v.lanes.length := by omega
        by_cases g4 : 300 < sl
        · have gL : (300 : Int) < sl := by omega
          clear hm g1 g2 g3 g4
          go_wp2_with fail
          go_ret
          exact ⟨rfl, HC0.out.trans' H2.out⟩
        · have gL : ¬ (300 : Int) < sl := by omega
          have hof := hm (by omega)
          have HOF : Hid (L13.ofV v ≤ 1000) := Lib.hid (by omega)
          have hR := HGV.out.vr (by have := HOF.out; unfold L13.ofV at this; omega)
          have HR := Lib.hid hR
          have HN1 : Hid (v.cells.length ≤ 60) := Lib.hid (by omega)
          have HN3 : Hid (v.lanes.length ≤ 8) := Lib.hid (by omega)
          have K := HK.out w2 (HC0.out.trans' H2.out)
          clear hm g1 g2 g3 hR hof
          go_wp2_with fail
          refine K.mono ?_
          rintro e w3 ⟨rfl, c3⟩
          have H3 := Lib.hid (H2.out.trans' c3)
          clear K c3 H2 k0 k1 k2 k3 k4 k5 k6 gI gJ gK gL g4
          obtain ⟨k0, k1, k2, k3, k4, k5, k6⟩ := KX.out w3 H3.out
          have HCW : Hid (Ch [] w w3) := Lib.hid (HC0.out.trans' H3.out)
          have OW := own_any w3 a v (HV.out.ch HCW.out) HR.out
          rw [HAR.out] at OW
          have HBC : Hid (Bnd w3) := Lib.hid (Bnd.ch HB.out HCW.out (by simp))
          go_wp2_with fail
          refine OW.mono ?_
          rintro e w5 ⟨O5, a5, rfl, hom⟩
          have hwp := heap_new w5 (.cells (a5.arr v) 83)
          obtain ⟨wp, hwpe⟩ : ∃ wp, wp = w5.heap.size := ⟨_, rfl⟩
          have HWM : Hid (∃ O, WM w3 (w5.alloc (.cells (a5.arr v) 83)) O wp a5 v) := Lib.hid (by
            rw [hwpe]
            exact ⟨_, (hom.keep (T := []) ((Ch.refl _ _).alloc _) (by simp)).wm hwp (hom.fresh (Nat.le_refl _)) hom.g.ch.size⟩)
          clear OW hom hwp k0 k1 k2 k3 k4 k5 k6
          unfold VA.arr at HWM ⊢
          go_upto_region 5 with fail
          rw [← hwpe]
          clear hwpe
          generalize World.alloc w5 _ = w6 at *
          obtain ⟨O6, HWM6⟩ := HWM.out
          have HM6 := Lib.hid HWM6
          have hp := HWM6.hp
          unfold VA.arr at hp
          have c1 := cell_at (i := 1) hp
          have f1 := free_at (i := 1) hp
          have hp2 := heap_set (i := 1) hp (.int .u8 1)
          have c5 := cell_at (i := 5) hp2
          have f5 := free_at (i := 5) hp2
          have hp3 := heap_set (i := 5) hp2 (.int .i64 0)
          have c3 := cell_at (i := 3) hp3
          have f3 := free_at (i := 3) hp3
          simp only [List.setIfInBounds_toArray, List.set_cons_zero, List.set_cons_succ, List.getElem?_toArray, List.getElem?_cons_zero, List.getElem?_cons_succ] at c1 c5 c3
          have HM7 : Hid (∃ O, WM w3 (((w6.setCell ⟨wp, 1, none⟩ (.int .u8 1)).setCell ⟨wp, 5, none⟩ (.int .i64 0)).setCell ⟨wp, 3, none⟩ (.slice none 0 0)) O wp { a5 with ag := none, cg := 0 } { v with ph := 1, laid := 0, grey := [] }) := Lib.hid (by
            have h2 := (HM6.out.phS 1).laidS 0
            have h3 := h2.greyS (w1 := (w6.setCell ⟨wp, 1, none⟩ (.int .u8 1)).setCell ⟨wp, 5, none⟩ (.int .i64 0)) (ao := none) (cap := 0) (q := []) (g := []) (T := []) (Row.nil _ _ _ _) (Ch.refl _ _) (by simp) (by simp)
            exact ⟨_, h3⟩)
          clear HWM HWM6 HM6 hp hp2 hp3
          go_upto_region 8 with fail
          clear c1 f1 c5 f5 c3 f3
          generalize ((w6.setCell ⟨wp, 1, none⟩ (.int .u8 1)).setCell ⟨wp, 5, none⟩ (.int .i64 0)).setCell ⟨wp, 3, none⟩ (.slice none 0 0) = w7 at *
          obtain ⟨v0, hv0⟩ : ∃ v0 : Vw, v0 = { v with ph := 1, laid := 0, grey := [] } := ⟨_, rfl⟩
          have HV0 := Lib.hid hv0
          rw [← hv0] at HM7
          have HL0 : Hid (v0.cells.length = v.cells.length ∧ v0.lanes.length = v.lanes.length) := Lib.hid (by rw [hv0]; exact ⟨rfl, rfl⟩)
          clear hv0
          go_wp2_with fail
          go_loopw [7] (fun i wr => ∃ (k : Nat), i = .int .i64 k ∧ k ≤ v0.cells.length ∧ ∃ O a, WM w3 wr O wp a (begC v0 k)) (fun i _ => 100 - (intOf i).toNat)
          case atStart =>
            obtain ⟨O, h⟩ := HM7.out
            refine ⟨0, rfl, by omega, O, { a5 with ag := none, cg := 0 }, ?_⟩
            have e : begC v0 0 = v0 := by unfold begC; rw [upTo_zero]
            rw [e]; exact h
          case round =>
            obtain ⟨k, rfl, hk, O, a8, hm⟩ := hrel
            clear HM7
            have HM := Lib.hid hm
            have hlen : (begC v0 k).cells.length = v0.cells.length := upTo_len _ _ _
            have p0 : wr.cell? ⟨wp, 0, none⟩ = some (.slice a8.ac (begC v0 k).cells.length a8.cc) := hm.wpc 0
            rw [hlen] at p0
            have hnc : v0.cells.length ≤ 60 := by rw [HL0.out.1]; exact HN1.out
            by_cases hlt : k < v0.cells.length
            · as_aux_lemma =>
              have ltK : (k : Int) < v0.cells.length := by omega
              obtain ⟨q, off, hac, _⟩ := hm.cell (c := k) (by rw [hlen]; exact hlt)
              obtain ⟨_, d1, _, _, fz, _⟩ := hm.cellF (c := k) (by rw [hlen]; exact hlt) hac
              have f1 : wr.frozen? ⟨q, off + k * 4 + 1, none⟩ = false := by have := fz (k * 4 + 1); rwa [← Nat.add_assoc] at this
              have HN8 : Hid (∃ O a, WM w3 (wr.setCell ⟨q, off + k * 4 + 1, none⟩ (.int .u8 0)) O wp a (begC v0 (k + 1))) := Lib.hid (by
                have := (hm.cellS (c := k) (by rw [hlen]; exact hlt) hac 1 (.int .u8 0) (zeroC (cel (begC v0 k) k)) (by omega) rfl).1
                rw [begC_next v0 k hlt, ← Nat.add_assoc] at this
                exact ⟨_, _, this⟩)
              rw [hac] at p0
              clear hac hm fz
              go_wp2_with fail
              go_roundw
              case rel => exact ⟨k + 1, by go_num, by omega, HN8.out⟩
              case measure => simp [intOf]; omega
            · have ltK : ¬ (k : Int) < v0.cells.length := by omega
              obtain rfl : k = v0.cells.length := by omega
              obtain ⟨v1, hv1⟩ : ∃ v1 : Vw, v1 = begC v0 v0.cells.length := ⟨_, rfl⟩
              have HV1 := Lib.hid hv1
              rw [← hv1] at hm HM
              have HL1 : Hid (v1.lanes.length = v.lanes.length) := Lib.hid (by rw [hv1]; exact HL0.out.2)
              have HLV := Lib.hid HL1.out
              clear hm hk hv1 hlen
              go_wp2_with fail
              clear p0
              go_loopw [8] (fun i wr => ∃ (k : Nat), i = .int .i64 k ∧ k ≤ v1.lanes.length ∧ ∃ O a, WM w3 wr O wp a (begU v1 k)) (fun i _ => 100 - (intOf i).toNat)
              case atStart =>
                refine ⟨0, rfl, by omega, O, a8, ?_⟩
                have e : begU v1 0 = v1 := by unfold begU; rw [upTo_zero]
                rw [e]; exact HM.out
              case round =>
                obtain ⟨k, rfl, hk, O, a9, hm⟩ := hrel
                clear HM
                have HM := Lib.hid hm
                have hlen : (begU v1 k).lanes.length = v1.lanes.length := upTo_len _ _ _
                have p6 : wr.cell? ⟨wp, 6, none⟩ = some (.slice a9.al (begU v1 k).lanes.length a9.cl) := hm.wpc 6
                rw [hlen] at p6
                have hnl : v1.lanes.length ≤ 8 := by rw [HL1.out]; exact HN3.out
                by_cases hlt : k < v1.lanes.length
                · as_aux_lemma =>
                  have ltK : (k : Int) < v1.lanes.length := by omega
                  obtain ⟨q, off, hal, _⟩ := hm.lane (j := k) (by rw [hlen]; exact hlt)
                  obtain ⟨_, d1, _, fz, _⟩ := hm.laneF (j := k) (by rw [hlen]; exact hlt) hal
                  have f1 : wr.frozen? ⟨q, off + k * 3 + 1, none⟩ = false := by have := fz (k * 3 + 1); rwa [← Nat.add_assoc] at this
                  have HN8 : Hid (∃ O a, WM w3 (wr.setCell ⟨q, off + k * 3 + 1, none⟩ (.bool false)) O wp a (begU v1 (k + 1))) := Lib.hid (by
                    have := hm.laneB (j := k) (by rw [hlen]; exact hlt) hal (t := 1) (.inl rfl) (l := unsc ((begU v1 k).lanes.getD k ln0)) rfl false ⟨fun _ => ⟨rfl, rfl⟩, fun e => by omega⟩
                    rw [begU_next v1 k hlt, ← Nat.add_assoc] at this
                    exact ⟨_, _, this⟩)
                  rw [hal] at p6
                  clear hal hm fz
                  go_wp2_with fail
                  go_roundw
                  case rel => exact ⟨k + 1, by go_num, by omega, HN8.out⟩
                  case measure => simp [intOf]; omega
                · have ltK : ¬ (k : Int) < v1.lanes.length := by omega
                  obtain rfl : k = v1.lanes.length := by omega
                  have hV : begU v1 v1.lanes.length = begV v := by
                    rw [HV1.out, HV0.out]
                    unfold begU begC begV
                    simp only [upTo_all]
                  have HM9 : Hid (WM w3 wr O wp a9 (begV v)) := Lib.hid (by rw [← hV]; exact hm)
                  clear hm hk hlen HM HV1 HV0 HL0 HL1 hV
                  have HO := Holds_any wr a9 (begV v) (Bnd.ch HBC.out HM9.out.g.ch (by simp)) HM9.out.vm (beg_vr HR.out)
                  have p0 : wr.cell? ⟨wp, 0, none⟩ = some (.slice a9.ac (begV v).cells.length a9.cc) := HM9.out.wpc 0
                  have p1 : wr.cell? ⟨wp, 1, none⟩ = some (.int .u8 (begV v).ph) := HM9.out.wpc 1
                  have p2 : wr.cell? ⟨wp, 2, none⟩ = some (.int .i64 (begV v).sw) := HM9.out.wpc 2
                  have p3 : wr.cell? ⟨wp, 3, none⟩ = some (.slice a9.ag (begV v).grey.length a9.cg) := HM9.out.wpc 3
                  have p4 : wr.cell? ⟨wp, 4, none⟩ = some (.slice a9.agl (begV v).globals.length a9.cgl) := HM9.out.wpc 4
                  have p5 : wr.cell? ⟨wp, 5, none⟩ = some (.int .i64 (begV v).laid) := HM9.out.wpc 5
                  have hnl2 : (begV v).lanes.length = v1.lanes.length := by simp [begV, HLV.out]
                  unfold VA.arr at HO
                  rw [hnl2] at HO
                  by_cases hmay : mayV (begV v) = true
                  · have hgv : GV (begV v) := by
                      have hq := HOF.out
                      unfold L13.ofV at hq
                      exact beg_gv HR.out hmay HN1.out (by omega) HN3.out (fun l hl => by have := rootsN_mem hl; omega)
                    obtain ⟨hB1, hE1⟩ := holds_of hgv.mv hgv.inr hgv.k2
                    rw [hB1, hE1] at HO
                    have HGB := Lib.hid hgv
                    have HLN : Hid ((begV v).cells.length ≤ 60) := Lib.hid hgv.nc
                    have HMY := Lib.hid hmay
                    obtain ⟨V0, hV0⟩ : ∃ V0, V0 = begV v := ⟨_, rfl⟩
                    have HJ0 : Hid (J V0 (fun i => (order V0.cells (rootsL V0)).1.getD i false = true)) := Lib.hid (by rw [hV0]; exact beg_j hmay (beg_c v))
                    rw [← hV0] at HM9 HGB HLN HMY HO p0 p1 p2 p3 p4 p5
                    clear hV0 hgv hB1 hE1 hmay hnl2
                    generalize holdsI V0 = hI at *
                    go_wp2_with fail
                    refine HO.mono ?_
                    rintro e w10 ⟨rfl, c10⟩
                    have HM10 := Lib.hid (HM9.out.chs c10)
                    clear HO p0 p1 p2 p3 p4 p5 p6 c10 HM9
                    have LV := live_any HM10.out HGB.out.vr HMY.out
                    go_wp2_with fail
                    refine LV.mono ?_
                    rintro e w11 ⟨mb, rfl, g1, g2, g3⟩
                    have HLL : Hid ((order V0.cells (rootsL V0)).1.length = V0.cells.length) := Lib.hid (Gp.order_len ((mayV_ok HMY.out).may (mayV_ok HMY.out).rootWords))
                    have HD11 : Hid (KD w3 w11 wp V0 [mb]) := Lib.hid (by
                      have h0 : KD w3 w10 wp V0 [] := ⟨⟨O, a9, HM10.out, by simp⟩, HGB.out⟩
                      have := h0.add (q := [mb]) g2 (by simp) (fun x hx => by simp at hx; subst hx; exact .inr ⟨g3, lt_of g1⟩)
                      simpa using this)
                    have HMB := Lib.hid g1
                    clear LV g1 g2 g3 HM10
                    obtain ⟨n, hn⟩ : ∃ n, n = V0.cells.length := ⟨_, rfl⟩
                    have HN := Lib.hid hn
                    rw [← hn] at HLL HLN ⊢
                    obtain ⟨lst, hlst⟩ : ∃ lst, lst = (order V0.cells (rootsL V0)).1 := ⟨_, rfl⟩
                    rw [← hlst] at HLL HJ0 HMB
                    have MK := fun (W : World) => run_make_bools W n (by have := HLN.out; omega)
                    clear hn hlst
                    have HD12 : Hid (KD w3 (w11.alloc (.cells (bv (List.replicate n false)).toArray 4)) wp V0 [w11.heap.size, mb]) := Lib.hid (by
                      have := HD11.out.add (q := [w11.heap.size]) ((Ch.refl [] w11).alloc (.cells (bv (List.replicate n false)).toArray 4)) (by simp) (fun x hx => by simp at hx; subst hx; exact .inr ⟨Nat.le_refl _, by rw [World.size_alloc]; omega⟩)
                      simpa using this)
                    have HFB : Hid ((w11.alloc (.cells (bv (List.replicate n false)).toArray 4)).heap[w11.heap.size]? = some (.cells (bv (List.replicate n false)).toArray 4 (0, 0))) := Lib.hid (heap_new _ _)
                    have HMB2 : Hid ((w11.alloc (.cells (bv (List.replicate n false)).toArray 4)).heap[mb]? = some (.cells (bv lst).toArray 4 (0, 0))) := Lib.hid (heap_old HMB.out)
                    have HNE : Hid (mb ≠ w11.heap.size) := Lib.hid (by have := lt_of HMB.out; omega)
                    go_upto_region 23 with fail
                    clear MK HD11 HMB
                    obtain ⟨fb, hfb⟩ : ∃ fb, fb = w11.heap.size := ⟨_, rfl⟩
                    rw [← hfb] at HD12 HFB HNE ⊢
                    clear hfb
                    generalize w11.alloc (.cells (bv (List.replicate n false)).toArray 4) = w12 at *
                    go_wp2_with fail
                    go_loopw [14, 15, 16, 17, 18] (fun i fr k1 ok k2 wr => ∃ (k : Nat) (V : Vw) (F : List Bool), i = .int .i64 k ∧ k ≤ sl ∧ KD w3 wr wp V [fb, mb] ∧ V.cells.length = n ∧ F.length = n ∧ wr.heap[mb]? = some (.cells (bv lst).toArray 4 (0, 0)) ∧ wr.heap[fb]? = some (.cells (bv F).toArray 4 (0, 0)) ∧ J V (LF lst F) ∧ ∀ c, F.getD c false = true → us V c ∧ (cel V c).c = 2) (fun i _ _ _ _ _ => sl - (intOf i).toNat)
                    case atStart =>
                      have hrep : ∀ c, (List.replicate n false).getD c false = false := fun c => by
                        rw [List.getD_eq_getElem?_getD, List.getElem?_replicate]; split <;> rfl
                      refine ⟨0, V0, List.replicate n false, rfl, by omega, HD12.out, HN.out.symm, by simp, HMB2.out, HFB.out, HJ0.out.congr (fun c => ?_), fun c hc => ?_⟩
                      · unfold LF; rw [hrep]; simp
                      · rw [hrep] at hc; cases hc
                    case round =>
                      obtain ⟨k, V, F, rfl, hk, hd, hvn, hfn, hm1, hf1, hj, hb⟩ := hrel
                      clear HD12 HMB2 HFB HJ0 HGB HMY HN
                      have HD := Lib.hid hd
                      have HVN := Lib.hid hvn
                      have HFN := Lib.hid hfn
                      have HM1 := Lib.hid hm1
                      have HF1 := Lib.hid hf1
                      have HJ := Lib.hid hj
                      have HB2 := Lib.hid hb
                      clear hd hvn hfn hm1 hf1 hj hb
                      by_cases hlt : k < sl
                      · have ltK : (k : Int) < sl := by omega
                        have HLT := Lib.hid hlt
                        obtain ⟨b, off, hso, hcs⟩ := HS.out.at hlt
                        have HCS := Lib.hid hcs
                        subst hso
                        clear hcs
                        obtain ⟨S0, hS0⟩ : ∃ S0, S0 = wr.heap.size := ⟨_, rfl⟩
                        have HS0 : Hid (mb < S0 ∧ fb < S0) := Lib.hid ⟨by rw [hS0]; exact lt_of HM1.out, by rw [hS0]; exact lt_of HF1.out⟩
                        have HS1 := Lib.hid hS0
                        clear hlt hS0
                        go_wp2_with fail
                        go_loopw [15, 16] (fun fr k1 w1 => ∃ (j : Nat) (qs : List Nat), k1 = .int .i64 j ∧ j ≤ n ∧ Row w1 4 1 fr qs j (bv (freeB V j)) ∧ KD w3 w1 wp V (qs ++ [fb, mb]) ∧ w1.heap[mb]? = some (.cells (bv lst).toArray 4 (0, 0)) ∧ w1.heap[fb]? = some (.cells (bv F).toArray 4 (0, 0)) ∧ (∀ x ∈ qs, S0 ≤ x) ∧ S0 ≤ w1.heap.size) (fun _ k1 _ => 100 - (intOf k1).toNat)
                        case atStart => exact ⟨0, [], rfl, by omega, Row.nil _ _ _ _, by simpa using HD.out, HM1.out, HF1.out, by simp, by rw [HS1.out]; exact Nat.le_refl _⟩
                        case round =>
                          obtain ⟨j, qs, rfl, hj, hrow, hd, hm1, hf1, hqs, hsz⟩ := hrel
                          clear HD HM1 HF1
                          have HD := Lib.hid hd
                          have HM1 := Lib.hid hm1
                          have HF1 := Lib.hid hf1
                          have HQS := Lib.hid hqs
                          have HSZ := Lib.hid hsz
                          have HROW := Lib.hid hrow
                          have hn60 : n ≤ 60 := HLN.out
                          obtain ⟨ao, cap, rfl, o1, o2, o3⟩ := hrow.rd
                          clear hd hm1 hf1 hqs hsz hrow
                          by_cases hlt : j < n
                          · as_aux_lemma =>
                            have ltJ : (j : Int) < n := by omega
                            obtain ⟨⟨O, a9, hm, hB⟩, _⟩ := HD.out
                            have hjl : j < V.cells.length := by rw [HVN.out]; exact hlt
                            obtain ⟨q, off, hac, _⟩ := hm.cell (c := j) hjl
                            obtain ⟨d0, _, _, _, _, _⟩ := hm.cellF (c := j) hjl hac
                            have p0 : World.cell? _ ⟨wp, 0, none⟩ = some (.slice a9.ac V.cells.length a9.cc) := hm.wpc 0
                            rw [hac, HVN.out] at p0
                            have HNX := Lib.hid (freeB_next V j)
                            clear hac hm hB hjl o3
                            generalize (cel V j).k = xk at *
                            obtain ⟨ib, hib, heb⟩ := Option.map_eq_some_iff.1 Gr.infoBool
                            simp only [Prod.mk.injEq] at heb
                            obtain ⟨hb0, hb1, hb2⟩ := heb
                            rename World => wi
                            have C1 : Ch [] wi (wi.alloc (.cells #[.bool (xk == 0)] 4)) := (Ch.refl _ _).alloc _
                            have HC1 := Lib.hid C1
                            have HR1 := Lib.hid (HROW.out.ch C1 (by simp))
                            have HN1 := Lib.hid (newL (w := wi) (b := wi.heap.size) rfl [.bool (xk == 0)] 4)
                            clear C1
                            go_wp2_with (at_builtin; go_loud (refine wpList_append_row _ rfl _ _ 73 rfl 4 ib _ 1 1 Tryd.underlying73 hib hb0 hb1 hb2 rfl (by decide) rfl HR1.out ⟨wi.heap.size, 0, none⟩ 1 1 [.bool (xk == 0)] rfl rfl HN1.out (by intro u hu; simp at hu; subst hu; rfl) (by unfold maxLen; omega) (by omega) ?_))
                            intro v' w4 qs' hr4 hc4 hq4
                            have HR4 := Lib.hid hr4
                            have HC4 := Lib.hid hc4
                            have HQ4 := Lib.hid hq4
                            obtain ⟨ao4, cap4, rfl, _⟩ := hr4.rd
                            clear hr4 hc4 hq4 p0 d0
                            go_wp2_with fail
                            go_roundw
                            case rel =>
                              have h1 := HD.out.ch HC1.out (by simp)
                              have hq5 : ∀ x ∈ qs', x ∈ qs ∨ ((wi.alloc (.cells #[.bool (xk == 0)] 4)).heap.size ≤ x ∧ x < w4.heap.size) := fun x hx => by
                                rcases HQ4.out with e | ⟨q', e, g1, g2⟩
                                · rw [e] at hx; exact .inl hx
                                · rw [e] at hx; simp at hx; subst hx; exact .inr ⟨by rw [World.size_alloc]; omega, g2⟩
                              have h2 := h1.add (q := qs') HC4.out (fun x hx => by simp [hx]) (fun x hx => (hq5 x hx).imp (fun e => by simp [e]) id)
                              have nm : mb ∉ qs := fun e => by have g1 := HQS.out _ e; have g2 := HS0.out.1; omega
                              have nf : fb ∉ qs := fun e => by have g1 := HQS.out _ e; have g2 := HS0.out.2; omega
                              have z1 := HC1.out.size
                              have z2 := HC4.out.size
                              have z0 := HSZ.out
                              refine ⟨j + 1, qs', by go_num, by omega, by rw [HNX.out]; exact HR4.out, h2.sub (fun x hx => ?_), HC4.out.heap (HC1.out.heap HM1.out (by simp)) nm, HC4.out.heap (HC1.out.heap HF1.out (by simp)) nf, fun x hx => ?_, by omega⟩
                              · rcases List.mem_append.1 hx with e | e
                                · simp [e]
                                · simp at e; rcases e with e | e <;> simp [e]
                              · rcases hq5 x hx with e | e
                                · exact HQS.out x e
                                · omega
                            case measure => simp [intOf]; omega
                          · have ltJ : ¬ (j : Int) < n := by omega
                            obtain rfl : n = j := by omega
                            have hlt2 := HLT.out
                            obtain ⟨s0, s1, s2, s3, s4⟩ := HCS.out _ (HCW.out.trans' HD.out.base)
                            have ST := HD.out.step HBC.out (ss.getD k s50) (HS.out.inn k hlt2)
                            have HGV2 := Lib.hid HD.out.g
                            clear hlt2 hlt o1 o2 o3
                            generalize ss.getD k s50 = s at *
                            go_wp2_with fail
                            refine ST.mono ?_
                            rintro e w7 ⟨rfl, hk7, hk8⟩
                            have HD7 := Lib.hid hk7
                            have HM7 := Lib.hid ((hk8 mb (by simp)).trans HM1.out)
                            have HF7 := Lib.hid ((hk8 fb (by simp)).trans HF1.out)
                            have HR7 := Lib.hid (row_same HROW.out (fun x hx => hk8 x (by simp [hx])))
                            obtain ⟨V', hV'⟩ : ∃ V', V' = stepS V s := ⟨_, rfl⟩
                            have HSTP := Lib.hid (lf_step HVN.out HFN.out (by have := step_jn HGV2.out HJ.out s; rwa [← hV'] at this) HB2.out)
                            have HL7 : Hid (V'.cells.length = n) := Lib.hid (by rw [hV', (step_jn HGV2.out HJ.out s).len]; exact HVN.out)
                            rw [← hV'] at HD7
                            clear ST hk7 hk8 s0 s1 s2 s3 s4 hV' HD HM1 HF1 HROW HGV2 HB2 HJ
                            go_wp2_with fail
                            go_loopw [18] (fun k2 w2 => ∃ (j : Nat), k2 = .int .i64 j ∧ j ≤ n ∧ KD w3 w2 wp V' (qs ++ [fb, mb]) ∧ w2.heap[mb]? = some (.cells (bv lst).toArray 4 (0, 0)) ∧ w2.heap[fb]? = some (.cells (bv (newF F (fun c => ((cel V c).k == 0) && ((cel V' c).k != 0)) j)).toArray 4 (0, 0)) ∧ Row w2 4 1 (.slice ao n cap) qs n (bv (freeB V n))) (fun k2 _ => 100 - (intOf k2).toNat)
                            case atStart => exact ⟨0, rfl, by omega, HD7.out, HM7.out, by rw [newF_zero]; exact HF7.out, HR7.out⟩
                            case round =>
                              obtain ⟨j, rfl, hj, hd, hm1, hf1, hr1⟩ := hrel
                              clear HD7 HM7 HF7 HR7
                              have HD := Lib.hid hd
                              have HM1 := Lib.hid hm1
                              have HF1 := Lib.hid hf1
                              have HROW := Lib.hid hr1
                              clear hd hm1 hf1 hr1
                              by_cases hlt : j < n
                              · as_aux_lemma =>
                                have ltJ : (j : Int) < n := by omega
                                obtain ⟨⟨O, a9, hm, hB⟩, _⟩ := HD.out
                                have hjl : j < V'.cells.length := by rw [HL7.out]; exact hlt
                                have p0 : World.cell? _ ⟨wp, 0, none⟩ = some (.slice a9.ac V'.cells.length a9.cc) := hm.wpc 0
                                obtain ⟨q, off, hac, _⟩ := hm.cell (c := j) hjl
                                obtain ⟨d0, _, _, _, _, _⟩ := hm.cellF (c := j) hjl hac
                                rw [hac, HL7.out] at p0
                                have b1 := cell_at (i := j) HF1.out
                                rw [bv_get (by rw [newF_len, HFN.out]; exact hlt), newF_atT _ _ _ _ (by rw [HFN.out]; exact hlt), if_neg (Nat.lt_irrefl _)] at b1
                                have f1 := free_at (i := j) HF1.out
                                obtain ⟨ao', cap', he, o1, o2, o3⟩ := HROW.out.rd
                                simp only [Value.slice.injEq, true_and] at he
                                obtain ⟨rfl, rfl⟩ := he
                                obtain ⟨bq, boff, hao, hbc⟩ := o3.2.resolve_left (by omega)
                                have b2 := (hbc j (by omega)).trans (freeB_at V n j hlt)
                                have HNX : Hid (∀ b, b = (F.getD j false || (((cel V j).k == 0) && ((cel V' j).k != 0))) → (bv (newF F (fun c => ((cel V c).k == 0) && ((cel V' c).k != 0)) j)).toArray.setIfInBounds j (.bool b) = (bv (newF F (fun c => ((cel V c).k == 0) && ((cel V' c).k != 0)) (j + 1))).toArray) := Lib.hid (fun b hb => by
                                  rw [newF_next _ _ _ (by rw [HFN.out]; exact hlt), bv_set, hb])
                                rename World => wi
                                have HRL : Hid (∀ b, ∃ j' : Nat, Value.int .i64 ((j + 1 : Nat) : Int) = .int .i64 j' ∧ j' ≤ n ∧ (b = (F.getD j false || (((cel V j).k == 0) && ((cel V' j).k != 0))) → KD w3 (wi.setCell ⟨fb, j, none⟩ (.bool b)) wp V' (qs ++ [fb, mb]) ∧ (wi.setCell ⟨fb, j, none⟩ (.bool b)).heap[mb]? = some (.cells (bv lst).toArray 4 (0, 0)) ∧ (wi.setCell ⟨fb, j, none⟩ (.bool b)).heap[fb]? = some (.cells (bv (newF F (fun c => ((cel V c).k == 0) && ((cel V' c).k != 0)) j')).toArray 4 (0, 0)) ∧ Row (wi.setCell ⟨fb, j, none⟩ (.bool b)) 4 1 (.slice ao n cap) qs n (bv (freeB V n)))) := Lib.hid (fun b => ⟨j + 1, rfl, by omega, fun hb => by
                                  have hc : Ch [fb] wi (wi.setCell ⟨fb, j, none⟩ (.bool b)) := (Ch.refl _ _).setCell _ _ (.inl (by simp))
                                  have nf : ∀ x ∈ qs, x ∉ [fb] := fun x hx hm => by simp at hm; subst hm; have g1 := HQS.out _ hx; have g2 := HS0.out.2; omega
                                  exact ⟨HD.out.ch hc (by simp), hc.heap HM1.out (by simpa using HNE.out), by rw [heap_set HF1.out, HNX.out b hb], HROW.out.ch hc nf⟩⟩)
                                have HAO := Lib.hid hao
                                rw [hao]
                                clear hac hm hB hjl o1 o2 o3 hbc hao
                                generalize F.getD j false = t1 at *
                                generalize (cel V j).k = x1 at *
                                generalize (cel V' j).k = x2 at *
                                cases t1
                                · by_cases e1 : x1 = 0
                                  · subst e1
                                    go_wp2_with fail
                                    go_roundw
                                    case rel =>
                                      obtain ⟨j', e, h1, h2⟩ := HRL.out (x2 != 0)
                                      exact ⟨j', by rw [← e]; go_num, h1, by have h3 := h2 (by simp); rw [HAO.out] at h3; exact h3⟩
                                    case measure => simp [intOf]; omega
                                  · have e1' : (x1 == 0) = false := by simpa using e1
                                    rw [e1'] at b2
                                    go_wp2_with fail
                                    go_roundw
                                    case rel =>
                                      obtain ⟨j', e, h1, h2⟩ := HRL.out false
                                      exact ⟨j', by rw [← e]; go_num, h1, by have h3 := h2 (by simp [e1']); rw [HAO.out] at h3; exact h3⟩
                                    case measure => simp [intOf]; omega
                                · go_wp2_with fail
                                  go_roundw
                                  case rel =>
                                    obtain ⟨j', e, h1, h2⟩ := HRL.out true
                                    exact ⟨j', by rw [← e]; go_num, h1, by have h3 := h2 (by simp); rw [HAO.out] at h3; exact h3⟩
                                  case measure => simp [intOf]; omega
                              · have ltJ : ¬ (j : Int) < n := by omega
                                obtain rfl : n = j := by omega
                                go_wp2_with fail
                                go_roundw
                                case rel => exact ⟨k + 1, V', newF F (fun c => ((cel V c).k == 0) && ((cel V' c).k != 0)) n, by go_num, by have := HLT.out; omega, HD.out.sub (fun x hx => by simp at hx; rcases hx with e | e <;> simp [e]), HL7.out, by rw [newF_len]; exact HFN.out, HM1.out, HF1.out, HSTP.out.1, HSTP.out.2⟩
                                case measure => simp [intOf]; have := HLT.out; omega
                      · have ltK : ¬ (k : Int) < sl := by omega
                        have hn60 : n ≤ 60 := HLN.out
                        clear hlt hk
                        go_wp2_with fail
                        go_loopw [19, 20] (fun i cp wf => ∃ (j : Nat), i = .int .i64 j ∧ j ≤ n ∧ KD w3 wf wp V [fb, mb] ∧ wf.heap[mb]? = some (.cells (bv lst).toArray 4 (0, 0)) ∧ wf.heap[fb]? = some (.cells (bv F).toArray 4 (0, 0))) (fun i _ _ => 100 - (intOf i).toNat)
                        case atStart => exact ⟨0, rfl, by omega, HD.out, HM1.out, HF1.out⟩
                        case round =>
                          obtain ⟨j, rfl, hj, hd, hm1, hf1⟩ := hrel
                          clear HD HM1 HF1
                          have HD := Lib.hid hd
                          have HM1 := Lib.hid hm1
                          have HF1 := Lib.hid hf1
                          clear hd hm1 hf1
                          by_cases hlt : j < n
                          · as_aux_lemma =>
                            have ltJ : (j : Int) < n := by omega
                            obtain ⟨⟨O, a9, hm, hB⟩, _⟩ := HD.out
                            have hjl : j < V.cells.length := by rw [HVN.out]; exact hlt
                            have p0 : World.cell? _ ⟨wp, 0, none⟩ = some (.slice a9.ac V.cells.length a9.cc) := hm.wpc 0
                            obtain ⟨q, off, hac, _⟩ := hm.cell (c := j) hjl
                            obtain ⟨d0, d1, d2, d3, _, _⟩ := hm.cellF (c := j) hjl hac
                            rw [hac, HVN.out] at p0
                            have b1 := cell_at (i := j) HF1.out
                            rw [bv_get (by rw [HFN.out]; exact hlt)] at b1
                            have b2 := cell_at (i := j) HM1.out
                            rw [bv_get (by rw [HLL.out]; exact hlt)] at b2
                            have e1 : F.getD j true = F.getD j false := by simp [List.getD_eq_getElem?_getD, HFN.out, hlt]
                            have e2 : lst.getD j true = lst.getD j false := by simp [List.getD_eq_getElem?_getD, HLL.out, hlt]
                            rw [e1] at b1
                            rw [e2] at b2
                            have hF := (HB2.out j)
                            have hC := HJ.out.co j
                            unfold LF at hC
                            rename World => wi
                            have HAL : Hid (∀ o, KD w3 (wi.alloc o) wp V [fb, mb] ∧ (wi.alloc o).heap[mb]? = some (.cells (bv lst).toArray 4 (0, 0)) ∧ (wi.alloc o).heap[fb]? = some (.cells (bv F).toArray 4 (0, 0))) := Lib.hid (fun o => ⟨HD.out.ch ((Ch.refl [] wi).alloc o) (by simp), heap_old HM1.out, heap_old HF1.out⟩)
                            have cm : ∀ o, (wi.alloc o).cell? ⟨mb, j, none⟩ = some (.bool (lst.getD j false)) := fun o => ((Ch.refl [] wi).alloc o).cell b2 (by simp)
                            have cf : ∀ o, (wi.alloc o).cell? ⟨fb, j, none⟩ = some (.bool (F.getD j false)) := fun o => ((Ch.refl [] wi).alloc o).cell b1 (by simp)
                            have g1 := cm (.cells #[.int .u8 (cel V j).k, .int .u8 (cel V j).c, .int .u64 (cel V j).a, .int .u64 (cel V j).b] 58)
                            have g2 := cf (.cells #[.int .u8 (cel V j).k, .int .u8 (cel V j).c, .int .u64 (cel V j).a, .int .u64 (cel V j).b] 58)
                            rw [us_k] at hF hC
                            clear hac hm hB hjl e1 e2 b1 b2 cm cf
                            generalize cel V j = x at *
                            obtain ⟨xk, xc, xa, xb⟩ := x
                            simp only at d0 d1 d2 d3 hF hC g1 g2
                            generalize F.getD j false = t1 at *
                            generalize lst.getD j false = t2 at *
                            cases t1
                            · cases t2
                              · by_cases k0 : xk = 0
                                · subst k0
                                  clear hF hC
                                  go_wp2_with fail
                                  go_roundw
                                  case rel => exact ⟨j + 1, by go_num, by omega, (HAL.out _).1, (HAL.out _).2.1, (HAL.out _).2.2⟩
                                  case measure => simp [intOf]; omega
                                · have k0' : (xk != 0) = true := by simpa using k0
                                  have c0 : xc = 0 := by
                                    apply Classical.byContradiction
                                    intro e
                                    have := hC k0 e
                                    simp at this
                                  subst c0
                                  clear hF hC k0
                                  go_wp2_with fail
                                  go_roundw
                                  case rel => exact ⟨j + 1, by go_num, by omega, (HAL.out _).1, (HAL.out _).2.1, (HAL.out _).2.2⟩
                                  case measure => simp [intOf]; omega
                              · clear hF hC
                                go_wp2_with fail
                                go_roundw
                                case rel => exact ⟨j + 1, by go_num, by omega, (HAL.out _).1, (HAL.out _).2.1, (HAL.out _).2.2⟩
                                case measure => simp [intOf]; omega
                            · obtain ⟨_, c2⟩ := hF rfl
                              subst c2
                              clear hF hC
                              go_wp2_with fail
                              go_roundw
                              case rel => exact ⟨j + 1, by go_num, by omega, (HAL.out _).1, (HAL.out _).2.1, (HAL.out _).2.2⟩
                              case measure => simp [intOf]; omega
                          · have ltJ : ¬ (j : Int) < n := by omega
                            have CF := Lib.hid (HCW.out.trans' HD.out.base)
                            clear hlt hj
                            go_wp2_with fail
                            go_ret
                            exact ⟨rfl, CF.out⟩
                  · have hm' : mayV (begV v) = false := by simpa using hmay
                    have hB1 : holdsB (begV v) = false := by unfold holdsB; rw [hm']; rfl
                    have hE1 : (holdsE (begV v) != 0) = true := by unfold holdsE; rw [hm']; rfl
                    rw [hB1] at HO
                    clear hmay hm' hB1 hnl2
                    generalize holdsE (begV v) = hE at *
                    generalize holdsI (begV v) = hI at *
                    generalize (begV v).cells.length = t0 at *
                    generalize (begV v).grey.length = t3 at *
                    generalize (begV v).globals.length = t4 at *
                    go_wp2_with fail
                    refine HO.mono ?_
                    rintro e w10 ⟨rfl, c10⟩
                    have HCE := Lib.hid (HCW.out.trans' (HM9.out.g.ch.trans' c10))
                    clear HO p0 p1 p2 p3 p4 p5 p6 c10
                    go_wp2_with fail
                    go_ret
                    exact ⟨rfl, HCE.out⟩
end Go.Proofs.YtlhhcocdhkbdnaaDoor.Kp
