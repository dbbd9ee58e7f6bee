/-
  THE WALKS of BarrierKeeps, on: live.
-/
import Derived.Test.YtlhhcocdhkbdnaaDoorQKeepW11
import Derived.Test.YtlhhcocdhkbdnaaDoorQJRef10b
set_option linter.unusedVariables false
set_option linter.unusedSimpArgs false
set_option maxRecDepth 100000
namespace Go.Proofs.YtlhhcocdhkbdnaaDoor.Kp
open Go.RowKit Go.Proofs.YtlhhcocdhkbdnaaDoor.Wd Go.Proofs.YtlhhcocdhkbdnaaDoor.Hp Go.Proofs.YtlhhcocdhkbdnaaDoor.Gp Go.Proofs.YtlhhcocdhkbdnaaDoor.Sm Go.Proofs.YtlhhcocdhkbdnaaDoor.Gr Go.Proofs.YtlhhcocdhkbdnaaDoor.Bp Go.Proofs.YtlhhcocdhkbdnaaDoor.Own
theorem ints_oneK (k : IntKind) (ws : List Int) : ∀ u ∈ ints k ws, u.oneCell' = true := by
  intro u hu
  unfold ints at hu
  obtain ⟨x, _, rfl⟩ := List.mem_map.1 hu
  rfl
set_option maxHeartbeats 8000000 in
theorem live_any {w0 w : World} {O : Nat → Nat} {wp : Nat} {a : VA} {v : Vw} (h : WM w0 w O wp a v) (hr : VR v) (hmay : mayV v = true) :
    Calls Tryd.prog 32 #[.pointer (some ⟨wp, 0, none⟩)] w fun e w' => ∃ mb : Nat, e = .returned (.slice (some ⟨mb, 0, none⟩) v.cells.length v.cells.length) ∧ w'.heap[mb]? = some (.cells (bv (order v.cells (rootsL v)).1).toArray 4 (0, 0)) ∧ Ch [] w w' ∧ w.heap.size ≤ mb := by
  have hok := mayV_ok hmay
  obtain ⟨i0, hi, he⟩ := Option.map_eq_some_iff.1 Gr.infoWord
  simp only [Prod.mk.injEq] at he
  obtain ⟨hz0, hz1, hz2⟩ := he
  have HH := Lib.hid h
  have HR := Lib.hid hr
  have HOK := Lib.hid hok
  have HU := Lib.hid hr.rootU
  have HWD := Lib.hid hok.rootWords
  have c4 : w.cell? ⟨wp, 4, none⟩ = some (.slice a.agl v.globals.length a.cgl) := h.wpc 4
  have c6 : w.cell? ⟨wp, 6, none⟩ = some (.slice a.al v.lanes.length a.cl) := h.wpc 6
  have KW : Hid (∀ W, Ch [] w W → W.cell? ⟨wp, 6, none⟩ = some (.slice a.al v.lanes.length a.cl) ∧ W.cell? ⟨wp, 0, none⟩ = some (.slice a.ac v.cells.length a.cc)) := Lib.hid (fun W hW => ⟨hW.cell c6 (by simp), hW.cell (h.wpc 0) (by simp)⟩)
  have HGR := Lib.hid h.vm.globals.rd
  have H1G := Lib.hid (ints_oneK .u64 v.globals)
  have hgl := hr.n3
  have hrt := rt_len v
  have HRT := Lib.hid hrt
  have hn5 := hr.n5
  have hn1 := hr.n1
  have hn4 := hr.n4
  have KL : Hid (∀ j, j < v.lanes.length → ∃ q off, a.al = some ⟨q, off, none⟩ ∧ (∀ W, Ch [] w W → W.cell? ⟨q, off + j * 3, none⟩ = some (.slice (a.la j) (v.lanes.getD j ln0).roots.length (a.lc j)) ∧ Hp.Rd W (a.la j) (v.lanes.getD j ln0).roots.length (ints .u64 (v.lanes.getD j ln0).roots))) := Lib.hid (fun j hj => by
    obtain ⟨q, off, hal, _⟩ := h.lane hj
    exact ⟨q, off, hal, fun W hW => ⟨((h.chs hW).laneF hj hal).1, ((h.chs hW).vm.roots j hj).rd⟩⟩)
  have HRN := Lib.hid (fun j => rt_next v j)
  have hrl : ∀ j, j < v.lanes.length → (v.lanes.getD j ln0).roots.length ≤ rootsN v.lanes := fun j hj => rootsN_mem (lane_mem hj)
  have HRL := Lib.hid hrl
  have HEND : Hid (rt v v.lanes.length = rootsL v) := Lib.hid rfl
  have hrt0 : Hid (rt v 0 = v.globals) := Lib.hid (by simp [rt])
  generalize hng : v.globals.length = ng at *
  have HNG := Lib.hid hng
  generalize hnl : v.lanes.length = nl at *
  have HNL := Lib.hid hnl
  generalize hnc : v.cells.length = nc at *
  have HNC := Lib.hid hnc
  clear h hr hok hmay hrt hrl hng hnl hnc c6
  go_enter Tryd.func32, Tryd.ntmps32
  go_wp2_with (at_builtin; go_loud (refine wpList_append_copy _ rfl _ _ 62 rfl 24 i0 _ 1 8 Tryd.underlying62 hi hz0 hz1 hz2 rfl (by decide) rfl a.agl ng a.cgl rfl (ints .u64 v.globals) (by have := HGR.out; rwa [Nat.mul_one]) H1G.out (by unfold maxLen; omega) (by omega) ?_))
  intro v9 w9 q9 hr9 hc9 hq9
  obtain ⟨ao9, cap9, rfl, _⟩ := hr9.rd
  have HR9 : Hid (Row w9 24 1 (.slice ao9 ng cap9) q9 (rt v 0).length (ints .u64 (rt v 0))) := Lib.hid (by rw [hrt0.out, HNG.out]; exact hr9)
  have HC9 := Lib.hid hc9
  have HQ9 : Hid (∀ x ∈ q9, w.heap.size ≤ x) := Lib.hid (fun x hx => by
    rcases hq9 with e | ⟨q', e, h1, h2⟩
    · rw [e] at hx; simp at hx
    · rw [e] at hx; simp at hx; omega)
  clear hr9 hc9 hq9 c4
  go_wp2_with fail
  go_loopw [4, 3] (fun i o wr => ∃ (j : Nat) (qs : List Nat), i = .int .i64 j ∧ j ≤ nl ∧ Row wr 24 1 o qs (rt v j).length (ints .u64 (rt v j)) ∧ Ch [] w wr ∧ ∀ x ∈ qs, w.heap.size ≤ x) (fun i _ _ => nl - (intOf i).toNat)
  case atStart => exact ⟨0, q9, rfl, by omega, HR9.out, HC9.out, HQ9.out⟩
  case round =>
    obtain ⟨j, qs, rfl, hj, ho, hch, hq⟩ := hrel
    have HO := Lib.hid ho
    have HCH := Lib.hid hch
    have HQ := Lib.hid hq
    obtain ⟨ao2, cap2, rfl, o1, o2, o3⟩ := ho.rd
    have hlen := HRT.out j
    obtain ⟨c6, c0⟩ := KW.out wr hch
    by_cases hlt : j < nl
    · have ltJ : (j : Int) < nl := by omega
      obtain ⟨q, off, hal, hL⟩ := KL.out j hlt
      obtain ⟨l0, r0⟩ := hL wr hch
      rw [hal] at c6
      have TK := Lib.hid (HRN.out j hlt)
      have HR0 := Lib.hid r0
      have hll := HRL.out j hlt
      have H1R := Lib.hid (ints_oneK .u64 (v.lanes.getD j ln0).roots)
      clear hal hL ho hch hq o3 r0
      generalize rt v j = xs at *
      generalize hx : xs.length = nx at *
      have HX := Lib.hid hx
      generalize hrr : (v.lanes.getD j ln0).roots = rs at *
      generalize hrn : rs.length = nr at *
      have HRNN := Lib.hid hrn
      generalize a.la j = la at *
      generalize a.lc j = lc at *
      clear hx hrr hrn c0
      go_wp2_with (at_builtin; go_loud (refine wpList_append_list _ rfl _ _ 62 rfl 24 i0 _ 1 8 Tryd.underlying62 hi hz0 hz1 hz2 rfl (by decide) rfl HO.out la nr lc rfl (ints .u64 rs) (by have := HR0.out; rwa [Nat.mul_one]) H1R.out (by unfold maxLen; omega) (by omega) ?_))
      intro v' w3 oq' hr4 hc4 hq4
      obtain ⟨ao4, cap4, rfl, _⟩ := hr4.rd
      have HR4 := Lib.hid hr4
      have HC4 := Lib.hid hc4
      have HQ4 := Lib.hid hq4
      clear hr4 hc4 hq4
      go_wp2_with fail
      go_roundw
      case rel =>
        refine ⟨j + 1, oq', by go_num, by omega, by rw [TK.out, List.length_append, HX.out, HRNN.out, show ints .u64 (xs ++ rs) = ints .u64 xs ++ ints .u64 rs by simp [ints]]; exact HR4.out, HCH.out.trans HC4.out (fun x hx => .inr (HQ.out x hx)), fun x hx => ?_⟩
        have s1 := HCH.out.size
        rcases HQ4.out with e | ⟨q', e, h1, h2⟩
        · rw [e] at hx; exact HQ.out x hx
        · rw [e] at hx; simp at hx; omega
      case measure => simp [intOf]; omega
    · have ltJ : ¬ (j : Int) < nl := by omega
      obtain rfl : nl = j := by omega
      have hw := HH.out.chs hch
      have RC := R10.Reach_any wr a.ac a.cc v.cells ao2 (rt v nl).length cap2 (rt v nl) (by rw [HNC.out]; omega) (by omega) hw.vm.cells (rdF_of (by simpa using o3)) HR.out.cells (by rw [HEND.out]; exact HU.out) (HOK.out.may (by rw [HEND.out]; exact HOK.out.rootWords))
      rw [HNC.out, HEND.out] at RC
      have HSZ := Lib.hid hch.size
      rw [HEND.out] at o1 hlen ⊢
      clear ho hch hq o3 hw
      generalize (rootsL v).length = nx at *
      go_wp2_with fail
      refine RC.mono ?_
      rintro e w5 ⟨mb, rfl, g1, g2, g3⟩
      have G1 := Lib.hid g1
      have G2 := Lib.hid (HCH.out.trans' g2)
      have G3 : Hid (w.heap.size ≤ mb) := Lib.hid (Nat.le_trans HSZ.out g3)
      clear RC g1 g2 g3
      go_wp2_with fail
      go_ret
      exact ⟨mb, rfl, G1.out, G2.out, G3.out⟩
end Go.Proofs.YtlhhcocdhkbdnaaDoor.Kp
