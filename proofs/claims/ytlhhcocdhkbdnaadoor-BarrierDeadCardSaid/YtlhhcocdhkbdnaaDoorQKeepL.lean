/-
  THE WALK of BarrierKeeps.
-/
import Derived.Test.YtlhhcocdhkbdnaaDoorQKeepW13
import Derived.Test.YtlhhcocdhkbdnaaDoorQKeepV
import Derived.Test.YtlhhcocdhkbdnaaDoorQJKeepP8
import Derived.Test.YtlhhcocdhkbdnaaDoorQKeepL0
import Derived.Test.YtlhhcocdhkbdnaaDoorQLaw13
import Derived.BigQuiet
set_option linter.unusedVariables false
set_option linter.unusedSimpArgs false
set_option maxRecDepth 100000
namespace Go.Proofs.YtlhhcocdhkbdnaaDoor.Kp
open Go.RowKit Go.Proofs.YtlhhcocdhkbdnaaDoor.Wd Go.Proofs.YtlhhcocdhkbdnaaDoor.Hp Go.Proofs.YtlhhcocdhkbdnaaDoor.Gp Go.Proofs.YtlhhcocdhkbdnaaDoor.Sm Go.Proofs.YtlhhcocdhkbdnaaDoor.Gr Go.Proofs.YtlhhcocdhkbdnaaDoor.Bp Go.Proofs.YtlhhcocdhkbdnaaDoor.Own
def s50 : S5 := ⟨0, 0, 0, 0, 0⟩
/-- The steps that are handed in. -/
structure Sts (w : World) (so : Option Addr) (sl : Nat) (ss : List S5) : Prop where
  len : ss.length = sl
  inn : ∀ j, j < sl → SI (ss.getD j s50)
  rd : sl = 0 ∨ ∃ b off, so = some ⟨b, off, none⟩ ∧ ∀ j t, j < sl → t < 5 → w.cell? ⟨b, off + (j * 5 + t), none⟩ = (stA (ss.getD j s50)).toList[t]?
theorem Sts.at {w : World} {so : Option Addr} {sl : Nat} {ss : List S5} (h : Sts w so sl ss) {j : Nat} (hj : j < sl) : ∃ b off, so = some ⟨b, off, none⟩ ∧ ∀ w', Ch [] w w' →
    w'.cell? ⟨b, off + j * 5, none⟩ = some (.int .i64 (ss.getD j s50).kd) ∧ w'.cell? ⟨b, off + j * 5 + 1, none⟩ = some (.int .i64 (ss.getD j s50).who) ∧ w'.cell? ⟨b, off + j * 5 + 2, none⟩ = some (.int .i64 (ss.getD j s50).a) ∧ w'.cell? ⟨b, off + j * 5 + 3, none⟩ = some (.int .i64 (ss.getD j s50).b) ∧ w'.cell? ⟨b, off + j * 5 + 4, none⟩ = some (.int .i64 (ss.getD j s50).c) := by
  obtain ⟨b, off, e, hc⟩ := h.rd.resolve_left (by omega)
  refine ⟨b, off, e, fun w' hw => ?_⟩
  have k := fun t (ht : t < 5) => (hc j t hj ht)
  exact ⟨hw.cell ((k 0 (by omega)).trans rfl) (by simp), hw.cell ((k 1 (by omega)).trans rfl) (by simp), hw.cell ((k 2 (by omega)).trans rfl) (by simp), hw.cell ((k 3 (by omega)).trans rfl) (by simp), hw.cell ((k 4 (by omega)).trans rfl) (by simp)⟩
theorem si_small {k x : Int} (h : I64 x) : SI ⟨k, x, 0, 0, 0⟩ := ⟨by unfold I64; simp, by unfold I64; simp, by unfold I64; simp, h⟩
theorem step_root (v : Vw) : stepS v ⟨10, 0, 0, 0, 0⟩ = rootV v := by unfold stepS collectS; simp
theorem pick_id {i n : Nat} (h : i < n) : pickN (i : Int) n = i := by
  unfold pickN pickI
  rw [if_neg (by omega), Int.emod_eq_of_lt (by omega) (by omega)]; simp
theorem step_scan (v : Vw) {i : Nat} (h : i < v.lanes.length) : stepS v ⟨11, i, 0, 0, 0⟩ = scanV v i := by
  unfold stepS collectS
  simp only [show (10 : Int) ≤ 11 by omega, if_true, show ¬ (11 : Int) = 10 by omega, if_false]
  rw [if_pos (by omega), pick_id h]
theorem step_into (v : Vw) : stepS v ⟨12, 0, 0, 0, 0⟩ = intoV v := by unfold stepS collectS; simp
/-- What stands behind the steps: a view by the rule, in its box. -/
structure KB (w0 w : World) (wp : Nat) (V : Vw) : Prop where
  m : ∃ O a, WM w0 w O wp a V
  g : GV V
theorem KB.chs {w0 w w' : World} {wp : Nat} {V : Vw} (h : KB w0 w wp V) (hc : Ch [] w w') : KB w0 w' wp V := by
  obtain ⟨⟨O, a, k⟩, g⟩ := h
  exact ⟨⟨O, a, k.chs hc⟩, g⟩
theorem KB.ch {w0 w : World} {wp : Nat} {V : Vw} (h : KB w0 w wp V) : Ch [] w0 w := by
  obtain ⟨⟨O, a, k⟩, g⟩ := h
  exact k.g.ch
theorem KB.step {w0 w : World} {wp : Nat} {V : Vw} (h : KB w0 w wp V) (hb : Bnd w0) (s : S5) (hs : SI s) :
    Calls Tryd.prog 31 #[.pointer (some ⟨wp, 0, none⟩), .agg #[.int .i64 s.kd, .int .i64 s.who, .int .i64 s.a, .int .i64 s.b, .int .i64 s.c]] w fun e w' => e = .returned (.bool true) ∧ KB w0 w' wp (stepS V s) := by
  obtain ⟨⟨O, a, k⟩, g⟩ := h
  refine (step_any k g hb s hs).mono ?_
  rintro e w' ⟨h1, O', a', h2, _⟩
  exact ⟨h1, ⟨O', a', h2⟩, step_gv g s⟩
/-- How many globals are not laid, by the box. -/
def glM (wp : Nat) (w : World) : Nat := match w.cell? ⟨wp, 4, none⟩, w.cell? ⟨wp, 5, none⟩ with
  | some (.slice _ n _), some (.int _ l) => n - l.toNat
  | _, _ => 0
theorem KB.glM {w0 w : World} {wp : Nat} {V : Vw} (h : KB w0 w wp V) : glM wp w = V.globals.length - V.laid.toNat := by
  obtain ⟨⟨O, a, k⟩, g⟩ := h
  have p4 : w.cell? ⟨wp, 4, none⟩ = some (.slice a.agl V.globals.length a.cgl) := k.wpc 4
  have p5 : w.cell? ⟨wp, 5, none⟩ = some (.int .i64 V.laid) := k.wpc 5
  unfold Kp.glM
  rw [p4, p5]
set_option maxHeartbeats 16000000 in
theorem BarrierKeeps_any (w : World) (a : VA) (v : Vw) (hv : VM w a v) (hg : OV.VG v) (hc : OV.VC a v) (hb : Bnd w) (so : Option Addr) (sl scap : Nat) (ss : List S5) (hs : Sts w so sl ss) :
    Calls Tryd.prog 8 #[.agg (a.arr v), .slice so sl scap] w fun e w' => e = .returned (.bool true) ∧ Ch [] w w' := by
  obtain ⟨W, hW⟩ : ∃ W, W = w.alloc (.cells (a.arr v) 65) := ⟨_, rfl⟩
  have C0 : Ch [] w W := by rw [hW]; exact (Ch.refl _ _).alloc _
  have hbx : W.heap[w.heap.size]? = some (.cells (a.arr v) 65 (0, 0)) := by rw [hW]; exact heap_new w _
  have HBX := Lib.hid hbx
  have KX : Hid (∀ w1 : World, Ch [] W w1 → w1.cell? ⟨w.heap.size, 0, none⟩ = some (.slice a.ac v.cells.length a.cc) ∧ w1.cell? ⟨w.heap.size, 1, none⟩ = some (.int .u8 v.ph) ∧ w1.cell? ⟨w.heap.size, 2, none⟩ = some (.int .i64 v.sw) ∧ w1.cell? ⟨w.heap.size, 3, none⟩ = some (.slice a.ag v.grey.length a.cg) ∧ w1.cell? ⟨w.heap.size, 4, none⟩ = some (.slice a.agl v.globals.length a.cgl) ∧ w1.cell? ⟨w.heap.size, 5, none⟩ = some (.int .i64 v.laid) ∧ w1.cell? ⟨w.heap.size, 6, none⟩ = some (.slice a.al v.lanes.length a.cl)) := Lib.hid (fun w1 h1 => by
    have hh := h1.heap HBX.out (by simp)
    unfold VA.arr at hh
    exact ⟨cell_at hh, cell_at hh, cell_at hh, cell_at hh, cell_at hh, cell_at hh, cell_at hh⟩)
  have OF := L13.ofView_eq W a v (hv.ch C0) hc
  have HK := Lib.hid (fun (w1 : World) (h1 : Ch [] w w1) => L13.known_any w1 (Bnd.ch hb h1 (by simp)))
  have HV := Lib.hid hv
  have HGV := Lib.hid hg
  have HB := Lib.hid hb
  have HC0 := Lib.hid C0
  have HS := Lib.hid hs
  have HAR : Hid (a.arr v = #[.slice a.ac v.cells.length a.cc, .int .u8 v.ph, .int .i64 v.sw, .slice a.ag v.grey.length a.cg, .slice a.agl v.globals.length a.cgl, .int .i64 v.laid, .slice a.al v.lanes.length a.cl]) := Lib.hid rfl
  have HNC : Hid (v.cells.length = v.cells.length) := Lib.hid rfl
  rw [HAR.out] at hW OF ⊢
  obtain ⟨k0, k1, k2, k3, k4, k5, k6⟩ := KX.out W (Ch.refl _ _)
  clear hv hg hc hb hbx C0 hs
  go_enter Tryd.func8, Tryd.ntmps8
  go_wp2_with fail
  rw [← hW]
  clear hW
  refine OF.mono ?_
  rintro e w2 ⟨⟨m, rfl, hm⟩, c2⟩
  have H2 := Lib.hid c2
  clear OF c2 k0 k1 k2 k3 k4 k5 k6
  obtain ⟨k0, k1, k2, k3, k4, k5, k6⟩ := KX.out w2 H2.out
  by_cases g1 : 1000 < m
  · have gI : (1000 : Int) < m := by omega
    clear hm g1
    go_wp2_with fail
    go_ret
    exact ⟨rfl, HC0.out.trans' H2.out⟩
  · have gI : ¬ (1000 : Int) < m := by omega
    by_cases g2 : 60 < v.cells.length
    · have gJ : (60 : Int) < v.cells.length := by omega
      clear hm g1 g2
      go_wp2_with fail
      go_ret
      exact ⟨rfl, HC0.out.trans' H2.out⟩
    · have gJ : ¬ (60 : Int) < v.cells.length := by omega
      by_cases g3 : 8 < v.lanes.length
      · have gK : (8 : Int) < v.lanes.length := by omega
        clear hm g1 g2 g3
        go_wp2_with fail
        go_ret
        exact ⟨rfl, HC0.out.trans' H2.out⟩
      · have gK : ¬ (8 : Int) < v.lanes.length := by omega
        by_cases g4 : 300 < sl
        · have gL : (300 : Int) < sl := by omega
          clear hm g1 g2 g3 g4
          go_wp2_with fail
          go_ret
          exact ⟨rfl, HC0.out.trans' H2.out⟩
        · have gL : ¬ (300 : Int) < sl := by omega
          have hof := hm (by omega)
          have HOF : Hid (L13.ofV v ≤ 1000) := Lib.hid (by omega)
          have hR := HGV.out.vr (by have := HOF.out; unfold L13.ofV at this; omega)
          have HR := Lib.hid hR
          have HN1 : Hid (v.cells.length ≤ 60) := Lib.hid (by omega)
          have HN3 : Hid (v.lanes.length ≤ 8) := Lib.hid (by omega)
          have K := HK.out w2 (HC0.out.trans' H2.out)
          clear hm g1 g2 g3 hR hof
          go_wp2_with fail
          refine K.mono ?_
          rintro e w3 ⟨rfl, c3⟩
          have H3 := Lib.hid (H2.out.trans' c3)
          clear K c3 H2 k0 k1 k2 k3 k4 k5 k6 gI gJ gK gL g4
          obtain ⟨k0, k1, k2, k3, k4, k5, k6⟩ := KX.out w3 H3.out
          have HO := Holds_any w3 a v (Bnd.ch HB.out (HC0.out.trans' H3.out) (by simp)) (HV.out.ch (HC0.out.trans' H3.out)) HR.out
          rw [HAR.out] at HO
          go_wp2_with fail
          refine HO.mono ?_
          rintro e w4 ⟨rfl, c4⟩
          have H4 := Lib.hid (H3.out.trans' c4)
          clear HO c4 H3 k0 k1 k2 k3 k4 k5 k6
          obtain ⟨k0, k1, k2, k3, k4, k5, k6⟩ := KX.out w4 H4.out
          have HHB : Hid (∃ x, x = holdsB v) := Lib.hid ⟨_, rfl⟩
          by_cases e0 : holdsE v = 0
          · by_cases b0 : holdsB v = true
            · by_cases ho : v.ph = 1 ∨ v.ph = 2
              · have HMV := Lib.hid (of_holds b0 e0 ho)
                rw [b0, e0]
                go_upto_region 5 with fail
                go_cut [65] (fun t wx => t = .bool false ∧ wx = w4)
                case first =>
                  rcases ho with hp | hp
                  · rw [hp] at k1
                    clear b0 e0
                    go_wp2_with fail
                    go_meet
                    exact ⟨rfl, rfl⟩
                  · rw [hp] at k1
                    clear b0 e0
                    go_wp2_with fail
                    go_meet
                    exact ⟨rfl, rfl⟩
                case rest =>
                  obtain ⟨rfl, rfl⟩ := hcut
                  have HCW : Hid (Ch [] w wc) := Lib.hid (HC0.out.trans' H4.out)
                  have hbw := H4.out.heap HBX.out (by simp)
                  obtain ⟨k0, k1, k2, k3, k4, k5, k6⟩ := KX.out wc H4.out
                  have OW := own_any wc a v (HV.out.ch HCW.out) HR.out
                  rw [HAR.out] at OW
                  have HBC : Hid (Bnd wc) := Lib.hid (Bnd.ch HB.out HCW.out (by simp))
                  clear hbw e0 b0 ho
                  go_wp2_with fail
                  refine OW.mono ?_
                  rintro e w5 ⟨O5, a5, rfl, hom⟩
                  have hwp := heap_new w5 (.cells (a5.arr v) 83)
                  have HGV0 : Hid (GV v) := Lib.hid (by
                    obtain ⟨h1, h2⟩ := HMV.out
                    have hr := HR.out
                    have hq := HOF.out
                    unfold L13.ofV at hq
                    exact ⟨h1, h2, hr.cells, hr.globals, hr.roots, HN1.out, by omega, HN3.out, fun l hl => by have := rootsN_mem hl; omega⟩)
                  obtain ⟨wp, hwpe⟩ : ∃ wp, wp = w5.heap.size := ⟨_, rfl⟩
                  have HKB : Hid (KB wc (w5.alloc (.cells (a5.arr v) 83)) wp v) := Lib.hid (by
                    rw [hwpe]
                    exact ⟨⟨_, a5, (hom.keep (T := []) ((Ch.refl _ _).alloc _) (by simp)).wm hwp (hom.fresh (Nat.le_refl _)) hom.g.ch.size⟩, HGV0.out⟩)
                  clear OW hom hwp k0 k1 k2 k3 k4 k5 k6
                  unfold VA.arr at HKB ⊢
                  go_upto_region 8 with fail
                  rw [← hwpe]
                  clear hwpe
                  generalize World.alloc w5 _ = w6 at *
                  go_wp2_with fail
                  go_loopw [10, 11] (fun i ok wr => ∃ (k : Nat) (V : Vw), i = .int .i64 k ∧ k ≤ sl ∧ KB wc wr wp V) (fun i _ _ => sl - (intOf i).toNat)
                  case atStart => exact ⟨0, v, rfl, by omega, HKB.out⟩
                  case round =>
                    obtain ⟨k, V, rfl, hk, hkb⟩ := hrel
                    have HKR := Lib.hid hkb
                    by_cases hlt : k < sl
                    · have ltK : (k : Int) < sl := by omega
                      obtain ⟨b, off, hso, hcs⟩ := HS.out.at hlt
                      obtain ⟨s0, s1, s2, s3, s4⟩ := hcs wr (HCW.out.trans' hkb.ch)
                      have ST := hkb.step HBC.out (ss.getD k s50) (HS.out.inn k hlt)
                      rw [hso]
                      clear hso hcs hkb HKB
                      generalize ss.getD k s50 = s at *
                      go_wp2_with fail
                      refine ST.mono ?_
                      rintro e w7 ⟨rfl, hk7⟩
                      have HK7 := Lib.hid hk7
                      clear ST hk7 s0 s1 s2 s3 s4
                      go_wp2_with fail
                      go_roundw
                      case rel => exact ⟨k + 1, _, by go_num, by omega, HK7.out⟩
                      case measure => simp [intOf]; omega
                    · obtain rfl : k = sl := by omega
                      clear hkb HKB
                      go_wp2_with fail
                      go_loopw [12] (fun ok wr => ∃ (V : Vw), KB wc wr wp V) (fun _ wr => glM wp wr)
                      case atStart => exact ⟨V, HKR.out⟩
                      case round =>
                        obtain ⟨V2, hk2⟩ := hrel
                        clear HKR
                        have HK2 := Lib.hid hk2
                        have hgl := hk2.glM
                        have hmv := hk2.g.mv.laid
                        have hng := hk2.g.ng
                        obtain ⟨⟨O2, a2, hm2⟩, hg2⟩ := hk2
                        have p4 : wr.cell? ⟨wp, 4, none⟩ = some (.slice a2.agl V2.globals.length a2.cgl) := hm2.wpc 4
                        have p5 : wr.cell? ⟨wp, 5, none⟩ = some (.int .i64 V2.laid) := hm2.wpc 5
                        by_cases hlt : V2.laid < V2.globals.length
                        · as_aux_lemma =>
                          have ltL : V2.laid < (V2.globals.length : Int) := hlt
                          have HST : Hid (∀ W, Ch [] wr W → Calls Tryd.prog 31 #[.pointer (some ⟨wp, 0, none⟩), .agg #[.int .i64 10, .int .i64 0, .int .i64 0, .int .i64 0, .int .i64 0]] W fun e w' => e = .returned (.bool true) ∧ KB wc w' wp (rootV V2)) := Lib.hid (fun W hW => by
                            have := (HK2.out.chs hW).step HBC.out ⟨10, 0, 0, 0, 0⟩ (si_small (by unfold I64; omega))
                            rw [step_root] at this
                            exact this)
                          have HGM : Hid (∀ W, KB wc W wp (rootV V2) → glM wp W < glM wp wr) := Lib.hid (fun W hW => by
                            rw [hW.glM, hgl]
                            obtain ⟨_, r2, _, r4⟩ := root_same V2
                            rw [if_pos hlt] at r4
                            rw [r2, r4]
                            omega)
                          clear hgl hlt hm2 hg2 HK2
                          go_wp2_with fail
                          go_quiet (fail)
                          have ST := HST.out (wr.drewN nq) ((Ch.refl _ _).drewN _)
                          clear p4 p5 HST
                          generalize wr.drewN nq = w7 at *
                          go_wp2_with fail
                          refine ST.mono ?_
                          rintro e w8 ⟨rfl, hk8⟩
                          have HK8 := Lib.hid hk8
                          clear ST hk8
                          go_wp2_with fail
                          go_roundw
                          case rel => exact ⟨_, HK8.out⟩
                          case measure => exact HGM.out _ HK8.out
                        · have ltL : ¬ V2.laid < (V2.globals.length : Int) := hlt
                          have HLD : Hid (V2.laid = V2.globals.length) := Lib.hid (by omega)
                          clear hgl hmv hlt hm2 hg2
                          go_wp2_with fail
                          go_quiet (fail)
                          have HK3 : Hid (KB wc (wr.drewN nq) wp V2) := Lib.hid (HK2.out.chs ((Ch.refl _ _).drewN _))
                          clear p4 p5 HK2
                          generalize wr.drewN nq = w7 at *
                          go_wp2_with fail
                          go_loopw [13, 14] (fun i ok wr => ∃ (k : Nat) (V : Vw), i = .int .i64 k ∧ k ≤ V.lanes.length ∧ KB wc wr wp V ∧ V.laid = V.globals.length ∧ ∀ j, j < k → (V.lanes.getD j ln0).sc = true) (fun i _ _ => 100 - (intOf i).toNat)
                          case atStart => exact ⟨0, V2, rfl, by omega, HK3.out, HLD.out, fun j hj => absurd hj (by omega)⟩
                          case round =>
                            obtain ⟨k3, V3, rfl, hk3, hkb3, hld3, hsc3⟩ := hrel
                            clear HK3 HLD
                            have HKB3 := Lib.hid hkb3
                            have HLD3 := Lib.hid hld3
                            have HSC3 := Lib.hid hsc3
                            have hnl3 := hkb3.g.nl
                            obtain ⟨⟨O3, a3, hm3⟩, hg3⟩ := hkb3
                            have p6 : wr.cell? ⟨wp, 6, none⟩ = some (.slice a3.al V3.lanes.length a3.cl) := hm3.wpc 6
                            by_cases hlt : k3 < V3.lanes.length
                            · as_aux_lemma =>
                              have ltL : (k3 : Int) < V3.lanes.length := by omega
                              have ST : Calls Tryd.prog 31 #[.pointer (some ⟨wp, 0, none⟩), .agg #[.int .i64 11, .int .i64 k3, .int .i64 0, .int .i64 0, .int .i64 0]] wr fun e w' => e = .returned (.bool true) ∧ KB wc w' wp (scanV V3 k3) := by
                                have := HKB3.out.step HBC.out ⟨11, k3, 0, 0, 0⟩ (si_small (by unfold I64; omega))
                                rw [step_scan V3 hlt] at this
                                exact this
                              have HLT := Lib.hid hlt
                              clear hm3 hg3 hld3 hsc3 hlt hk3
                              go_wp2_with fail
                              refine ST.mono ?_
                              rintro e w8 ⟨rfl, hk8⟩
                              have HK8 := Lib.hid hk8
                              clear ST hk8 p6
                              go_wp2_with fail
                              go_roundw
                              case rel =>
                                obtain ⟨r1, r2, r3, r4⟩ := scan_same V3 k3
                                refine ⟨k3 + 1, _, by go_num, by rw [r1, List.length_set]; have := HLT.out; omega, HK8.out, by rw [r2, r3]; exact HLD3.out, fun j hj => ?_⟩
                                rw [r1]
                                by_cases e : j = k3
                                · subst e; simp [List.getD_eq_getElem?_getD, HLT.out]
                                · rw [List.getD_eq_getElem?_getD, List.getElem?_set_ne (Ne.symm e), ← List.getD_eq_getElem?_getD]; exact HSC3.out j (by omega)
                              case measure => simp [intOf]; have := HLT.out; omega
                            · have ltL : ¬ (k3 : Int) < V3.lanes.length := by omega
                              have HAL : Hid (∀ l ∈ V3.lanes, l.sc = true) := Lib.hid (fun l hl => by
                                obtain ⟨j, hj, rfl⟩ := mem_getD ln0 hl
                                exact hsc3 j (by omega))
                              clear hm3 hg3 hld3 hsc3 hlt hk3 HSC3
                              go_wp2_with fail
                              clear p6
                              go_loopw [15, 16] (fun i ok wr => ∃ (k : Nat) (V : Vw), i = .int .i64 k ∧ k + nb V.cells ≤ V.cells.length ∧ KB wc wr wp V ∧ V.laid = V.globals.length ∧ ∀ l ∈ V.lanes, l.sc = true) (fun i _ _ => 100 - (intOf i).toNat)
                              case atStart => exact ⟨0, V3, rfl, by have := nb_le V3.cells; omega, HKB3.out, HLD3.out, HAL.out⟩
                              case round =>
                                obtain ⟨k4, V4, rfl, hk4, hkb4, hld4, hsc4⟩ := hrel
                                clear HKB3 HLD3 HAL
                                have HKB4 := Lib.hid hkb4
                                have HLD4 := Lib.hid hld4
                                have HSC4 := Lib.hid hsc4
                                have hnc4 := hkb4.g.nc
                                obtain ⟨⟨O4, a4, hm4⟩, hg4⟩ := hkb4
                                have p3 : wr.cell? ⟨wp, 3, none⟩ = some (.slice a4.ag V4.grey.length a4.cg) := hm4.wpc 3
                                by_cases hlt : 0 < V4.grey.length
                                · as_aux_lemma =>
                                  have ltL : (0 : Int) < V4.grey.length := by omega
                                  have ST : Calls Tryd.prog 31 #[.pointer (some ⟨wp, 0, none⟩), .agg #[.int .i64 12, .int .i64 0, .int .i64 0, .int .i64 0, .int .i64 0]] wr fun e w' => e = .returned (.bool true) ∧ KB wc w' wp (intoV V4) := by
                                    have := HKB4.out.step HBC.out ⟨12, 0, 0, 0, 0⟩ (si_small (by unfold I64; omega))
                                    rw [step_into V4] at this
                                    exact this
                                  have hnb := into_nb hg4 (by intro e; rw [e] at hlt; simp at hlt)
                                  obtain ⟨r1, r2, r3, r4⟩ := into_same (v := V4)
                                  have HR1 := Lib.hid r1
                                  have HR2 := Lib.hid r2
                                  have HR3 := Lib.hid r3
                                  have HR4 := Lib.hid r4
                                  have HNB : Hid (k4 + 1 + nb (intoV V4).cells ≤ V4.cells.length) := Lib.hid (by omega)
                                  have hk60 : k4 < 60 := by omega
                                  clear hm4 hg4 hld4 hsc4 hlt r1 r2 r3 r4 hk4 hnb
                                  go_wp2_with fail
                                  refine ST.mono ?_
                                  rintro e w8 ⟨rfl, hk8⟩
                                  have HK8 := Lib.hid hk8
                                  obtain ⟨⟨O8, a8, hm8⟩, hg8⟩ := hk8
                                  have p0 : w8.cell? ⟨wp, 0, none⟩ = some (.slice a8.ac (intoV V4).cells.length a8.cc) := hm8.wpc 0
                                  have ltC : ¬ ((intoV V4).cells.length : Int) < k4 := by have := HNB.out; have := HR4.out; omega
                                  clear ST hm8 hg8 p3
                                  generalize (intoV V4).cells.length = nc8 at *
                                  go_wp2_with fail
                                  go_roundw
                                  case rel => exact ⟨k4 + 1, intoV V4, by go_num, by rw [(into_same (v := V4)).2.2.2]; exact HNB.out, HK8.out, by rw [HR2.out, HR3.out]; exact HLD4.out, by rw [HR1.out]; exact HSC4.out⟩
                                  case measure => simp [intOf]; omega
                                · have ltL : ¬ (0 : Int) < V4.grey.length := by omega
                                  have hgn : V4.grey = [] := List.eq_nil_of_length_eq_zero (by omega)
                                  have LV := live_any hm4 hg4.vr hg4.mv.may
                                  have HFB := Lib.hid (fun i (hi : i < V4.cells.length) => fin_black hg4 hld4 hsc4 hgn hi)
                                  have HLL : Hid ((order V4.cells (rootsL V4)).1.length = V4.cells.length) := Lib.hid (Gp.order_len ((mayV_ok hg4.mv.may).may (mayV_ok hg4.mv.may).rootWords))
                                  clear hm4 hg4 hld4 hsc4 hlt hgn hk4
                                  go_wp2_with fail
                                  refine LV.mono ?_
                                  rintro e w9 ⟨mb, rfl, g1, g2, g3⟩
                                  have HMB := Lib.hid g1
                                  have HKB9 := Lib.hid (HKB4.out.chs g2)
                                  clear LV g1 g2 g3 p3
                                  obtain ⟨nc, hnc⟩ : ∃ nc, nc = V4.cells.length := ⟨_, rfl⟩
                                  have HNCC := Lib.hid hnc
                                  rw [← hnc] at HFB HLL hnc4 ⊢
                                  clear hnc
                                  go_wp2_with fail
                                  go_loopw [18] (fun i wr => ∃ k : Nat, i = .int .i64 k ∧ k ≤ nc ∧ Ch [] w9 wr) (fun i _ => 100 - (intOf i).toNat)
                                  case atStart => exact ⟨0, rfl, by omega, Ch.refl _ _⟩
                                  case round =>
                                    obtain ⟨k5, rfl, hk5, hch5⟩ := hrel
                                    have HC5 := Lib.hid hch5
                                    by_cases hlt : k5 < nc
                                    · as_aux_lemma =>
                                      have ltL : (k5 : Int) < nc := by omega
                                      have b1 := cell_at (i := k5) (hch5.heap HMB.out (by simp))
                                      rw [bv_get (by rw [HLL.out]; exact hlt)] at b1
                                      have HF5 := Lib.hid (HFB.out k5 (by have := HNCC.out; omega))
                                      obtain ⟨⟨O9, a9, hm9⟩, hg9⟩ := HKB9.out.chs hch5
                                      obtain ⟨q, off, hac, _⟩ := hm9.cell (c := k5) (by have := HNCC.out; omega)
                                      obtain ⟨d0, d1, d2, d3, _, _⟩ := hm9.cellF (c := k5) (by have := HNCC.out; omega) hac
                                      have p0 : wr.cell? ⟨wp, 0, none⟩ = some (.slice a9.ac V4.cells.length a9.cc) := hm9.wpc 0
                                      rw [hac, ← HNCC.out] at p0
                                      clear hac hm9 hg9 hch5 hk5 d2 d3
                                      generalize cel V4 k5 = x at *
                                      obtain ⟨xk, xc, xa, xb⟩ := x
                                      simp only at d0 d1 HF5
                                      generalize (order V4.cells (rootsL V4)).1.getD k5 true = lvb at *
                                      cases lvb
                                      · go_wp2_with fail
                                        go_roundw
                                        case rel => exact ⟨k5 + 1, by go_num, by omega, HC5.out⟩
                                        case measure => simp [intOf]; omega
                                      · by_cases k00 : xk = 0
                                        · subst k00
                                          go_wp2_with fail
                                          go_roundw
                                          case rel => exact ⟨k5 + 1, by go_num, by omega, HC5.out⟩
                                          case measure => simp [intOf]; omega
                                        · have k0' : (xk != 0) = true := by simpa using k00
                                          have c2 : xc = 2 := HF5.out k00 rfl
                                          clear HF5 k00
                                          subst c2
                                          go_wp2_with fail
                                          go_roundw
                                          case rel => exact ⟨k5 + 1, by go_num, by omega, HC5.out⟩
                                          case measure => simp [intOf]; omega
                                    · have ltL : ¬ (k5 : Int) < nc := by omega
                                      have CF : Hid (Ch [] w wr) := Lib.hid (HCW.out.trans' (HKB9.out.ch.trans' hch5))
                                      clear hch5 hk5
                                      go_wp2_with fail
                                      go_ret
                                      exact ⟨rfl, CF.out⟩
              · have q1 : (v.ph != 1) = true := by simp; omega
                have q2 : (v.ph != 2) = true := by simp; omega
                clear ho
                rw [b0, e0]
                clear b0 e0
                go_wp2_with fail
                go_ret
                exact ⟨rfl, HC0.out.trans' H4.out⟩
            · have b1 : holdsB v = false := by simpa using b0
              rw [b1, e0]
              clear b0 e0 b1
              go_wp2_with fail
              go_ret
              exact ⟨rfl, HC0.out.trans' H4.out⟩
          · have q1 : (holdsE v != 0) = true := by simpa using e0
            clear e0
            go_wp2_with fail
            go_ret
            exact ⟨rfl, HC0.out.trans' H4.out⟩
end Go.Proofs.YtlhhcocdhkbdnaaDoor.Kp
