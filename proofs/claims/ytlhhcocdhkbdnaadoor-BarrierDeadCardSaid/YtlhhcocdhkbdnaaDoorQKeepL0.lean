/-
  THE WALK of ofView, exactly.
-/
import Derived.Test.YtlhhcocdhkbdnaaDoorQViews
set_option linter.unusedVariables false
set_option linter.unusedSimpArgs false
set_option maxRecDepth 100000
namespace Go.Proofs.YtlhhcocdhkbdnaaDoor.L13
open Go.RowKit Go.Proofs.YtlhhcocdhkbdnaaDoor.Wd Go.Proofs.YtlhhcocdhkbdnaaDoor.Hp Go.Proofs.YtlhhcocdhkbdnaaDoor.Gp Go.Proofs.YtlhhcocdhkbdnaaDoor.Sm Go.Proofs.YtlhhcocdhkbdnaaDoor.Gr Go.Proofs.YtlhhcocdhkbdnaaDoor.Bp Go.Proofs.YtlhhcocdhkbdnaaDoor.OV
set_option maxHeartbeats 1000000 in
theorem ofView_eq (w : World) (a : VA) (v : Vw) (hv : VM w a v) (hc : VC a v) :
    Calls Tryd.prog 23 #[.agg (a.arr v)] w fun e w' => (∃ m : Nat, e = .returned (.int .i64 (m : Int)) ∧ (m ≤ 20000 → m = ofV v)) ∧ Ch [] w w' := by
  obtain ⟨W, hW⟩ : ∃ W, W = w.alloc (.cells (a.arr v) 65) := ⟨_, rfl⟩
  have C0 : Ch [] w W := by rw [hW]; exact (Ch.refl _ _).alloc _
  have hbx : W.heap[w.heap.size]? = some (.cells (a.arr v) 65 (0, 0)) := by rw [hW]; exact heap_new w _
  have HBX := Lib.hid hbx
  have KX : Hid (∀ w1 : World, Ch [] W w1 → w1.cell? ⟨w.heap.size, 0, none⟩ = some (.slice a.ac v.cells.length a.cc) ∧ w1.cell? ⟨w.heap.size, 3, none⟩ = some (.slice a.ag v.grey.length a.cg) ∧ w1.cell? ⟨w.heap.size, 4, none⟩ = some (.slice a.agl v.globals.length a.cgl) ∧ w1.cell? ⟨w.heap.size, 6, none⟩ = some (.slice a.al v.lanes.length a.cl)) := Lib.hid (fun w1 h1 => by
    have hh := h1.heap HBX.out (by simp)
    unfold VA.arr at hh
    exact ⟨cell_at hh, cell_at hh, cell_at hh, cell_at hh⟩)
  have HC0 := Lib.hid C0
  have HV := Lib.hid hv
  have HRC := Lib.hid hc.rn
  obtain ⟨n1, n2, n3, n4⟩ := hc.nn
  unfold reachBytes at n1 n2 n3 n4
  have HK0 : Hid (ofK v 0 = v.cells.length + v.grey.length + v.globals.length + v.lanes.length) := Lib.hid (by simp [ofK, rootsN])
  have HKN := Lib.hid (ofK_next v)
  have HKA := Lib.hid (ofK_all v)
  unfold VA.arr at hW ⊢
  obtain ⟨k0, k3, k4, k6⟩ := KX.out W (Ch.refl _ _)
  clear hv hc hbx C0
  generalize v.cells.length = n at *
  generalize v.grey.length = gl at *
  generalize v.globals.length = ng at *
  obtain ⟨nl, hnl⟩ : ∃ nl, nl = v.lanes.length := ⟨_, rfl⟩
  have HNL := Lib.hid hnl
  rw [← hnl] at n4 HK0 HKA k6 KX hW ⊢
  clear hnl
  go_enter Tryd.func23, Tryd.ntmps23
  go_wp2_with fail
  rw [← hW]
  clear hW k0 k3 k4 k6
  go_loopw [4, 3] (fun i m wr => ∃ k : Nat, i = .int .i64 k ∧ k ≤ nl ∧ m = .int .i64 (ofK v k : Nat) ∧ ofK v k ≤ 1000000000000000 ∧ Ch [] W wr) (fun i _ _ => nl - (intOf i).toNat)
  case atStart => exact ⟨0, rfl, by omega, by rw [HK0.out]; go_num, by rw [HK0.out]; omega, Ch.refl _ _⟩
  case round =>
    obtain ⟨k, rfl, hk, rfl, hle, hc⟩ := hrel
    have HC := Lib.hid hc
    obtain ⟨k0, k3, k4, k6⟩ := KX.out wr hc
    by_cases hlt : k < nl
    · have hkl : k < v.lanes.length := by rw [← HNL.out]; exact hlt
      have ltK : (k : Int) < nl := by omega
      by_cases hb : ofK v k ≤ 20000
      · obtain ⟨b, off, hal, c1, c2, c3⟩ := (HV.out.ch (HC0.out.trans' hc)).lane k hkl
        have hr := HRC.out k hkl
        have hr1 : (v.lanes.getD k ln0).roots.length ≤ 140737488355328 := by unfold reachBytes at hr; omega
        have HNX := Lib.hid (HKN.out k hkl)
        rw [hal] at k6
        rw [hal]
        clear hal hc hkl hr c2 c3 k0 k3 k4
        generalize (v.lanes.getD k ln0).roots.length = xl at *
        generalize a.la k = xa at *
        generalize a.lc k = xc at *
        obtain ⟨m, hm⟩ : ∃ m, m = ofK v k := ⟨_, rfl⟩
        have HM := Lib.hid hm
        rw [← hm] at hb hle ⊢
        clear hm
        have hbI : (m : Int) ≤ 20000 := by omega
        go_wp2_with fail
        go_roundw
        case rel => exact ⟨k + 1, by go_num, by omega, by rw [HNX.out, ← HM.out]; go_num, by rw [HNX.out, ← HM.out]; omega, HC.out⟩
        case measure => simp [intOf]; omega
      · have hbI : ¬ (ofK v k : Int) ≤ 20000 := by omega
        clear hc
        go_wp2_with fail
        go_ret
        exact ⟨⟨_, rfl, fun h => absurd h hb⟩, HC0.out.trans' HC.out⟩
    · obtain rfl : nl = k := by omega
      clear hc
      have HZ : Hid (ofK v nl ≤ 20000 → ofK v nl = ofV v) := Lib.hid (fun _ => HKA.out)
      generalize ofK v nl = m at *
      go_wp2_with fail
      go_ret
      exact ⟨⟨_, rfl, HZ.out⟩, HC0.out.trans' HC.out⟩
end Go.Proofs.YtlhhcocdhkbdnaaDoor.L13
