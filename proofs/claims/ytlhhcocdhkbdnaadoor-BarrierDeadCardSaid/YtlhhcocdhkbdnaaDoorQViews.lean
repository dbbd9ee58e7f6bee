/-
  THE WALKS of ofView, lent, whole.
-/
import Derived.Test.YtlhhcocdhkbdnaaDoorQJOpenView
import Derived.Test.YtlhhcocdhkbdnaaDoorQJLentI
import Derived.Test.YtlhhcocdhkbdnaaDoorQHolds
set_option linter.unusedVariables false
set_option linter.unusedSimpArgs false
set_option maxRecDepth 100000
namespace Go.Proofs.YtlhhcocdhkbdnaaDoor.L13
open Go.RowKit Go.Proofs.YtlhhcocdhkbdnaaDoor.Wd Go.Proofs.YtlhhcocdhkbdnaaDoor.Hp Go.Proofs.YtlhhcocdhkbdnaaDoor.Gp Go.Proofs.YtlhhcocdhkbdnaaDoor.Sm Go.Proofs.YtlhhcocdhkbdnaaDoor.Gr Go.Proofs.YtlhhcocdhkbdnaaDoor.Bp Go.Proofs.YtlhhcocdhkbdnaaDoor.OV
def ofV (v : Vw) : Nat := v.cells.length + v.grey.length + v.globals.length + v.lanes.length + rootsN v.lanes
def ofK (v : Vw) (k : Nat) : Nat := v.cells.length + v.grey.length + v.globals.length + v.lanes.length + rootsN (v.lanes.take k)
theorem ofK_next (v : Vw) (k : Nat) (h : k < v.lanes.length) : ofK v (k + 1) = ofK v k + (v.lanes.getD k ln0).roots.length := by
  unfold ofK
  rw [take_snoc v.lanes k ln0 h]
  simp [rootsN]; omega
theorem ofK_all (v : Vw) : ofK v v.lanes.length = ofV v := by unfold ofK ofV; rw [List.take_length]
set_option maxHeartbeats 1000000 in
theorem ofView_any (w : World) (a : VA) (v : Vw) (hv : VM w a v) (hc : VC a v) :
    Calls Tryd.prog 23 #[.agg (a.arr v)] w fun e w' => (∃ m : Nat, e = .returned (.int .i64 (m : Int)) ∧ (m ≤ 20000 → ofV v ≤ 20000)) ∧ Ch [] w w' := by
  obtain ⟨W, hW⟩ : ∃ W, W = w.alloc (.cells (a.arr v) 65) := ⟨_, rfl⟩
  have C0 : Ch [] w W := by rw [hW]; exact (Ch.refl _ _).alloc _
  have hbx : W.heap[w.heap.size]? = some (.cells (a.arr v) 65 (0, 0)) := by rw [hW]; exact heap_new w _
  have HBX := Lib.hid hbx
  have KX : Hid (∀ w1 : World, Ch [] W w1 → w1.cell? ⟨w.heap.size, 0, none⟩ = some (.slice a.ac v.cells.length a.cc) ∧ w1.cell? ⟨w.heap.size, 3, none⟩ = some (.slice a.ag v.grey.length a.cg) ∧ w1.cell? ⟨w.heap.size, 4, none⟩ = some (.slice a.agl v.globals.length a.cgl) ∧ w1.cell? ⟨w.heap.size, 6, none⟩ = some (.slice a.al v.lanes.length a.cl)) := Lib.hid (fun w1 h1 => by
    have hh := h1.heap HBX.out (by simp)
    unfold VA.arr at hh
    exact ⟨cell_at hh, cell_at hh, cell_at hh, cell_at hh⟩)
  have HC0 := Lib.hid C0
  have HV := Lib.hid hv
  have HRC := Lib.hid hc.rn
  obtain ⟨n1, n2, n3, n4⟩ := hc.nn
  unfold reachBytes at n1 n2 n3 n4
  have HK0 : Hid (ofK v 0 = v.cells.length + v.grey.length + v.globals.length + v.lanes.length) := Lib.hid (by simp [ofK, rootsN])
  have HKN := Lib.hid (ofK_next v)
  have HKA := Lib.hid (ofK_all v)
  unfold VA.arr at hW ⊢
  obtain ⟨k0, k3, k4, k6⟩ := KX.out W (Ch.refl _ _)
  clear hv hc hbx C0
  generalize v.cells.length = n at *
  generalize v.grey.length = gl at *
  generalize v.globals.length = ng at *
  obtain ⟨nl, hnl⟩ : ∃ nl, nl = v.lanes.length := ⟨_, rfl⟩
  have HNL := Lib.hid hnl
  rw [← hnl] at n4 HK0 HKA k6 KX hW ⊢
  clear hnl
  go_enter Tryd.func23, Tryd.ntmps23
  go_wp2_with fail
  rw [← hW]
  clear hW k0 k3 k4 k6
  go_loopw [4, 3] (fun i m wr => ∃ k : Nat, i = .int .i64 k ∧ k ≤ nl ∧ m = .int .i64 (ofK v k : Nat) ∧ ofK v k ≤ 1000000000000000 ∧ Ch [] W wr) (fun i _ _ => nl - (intOf i).toNat)
  case atStart => exact ⟨0, rfl, by omega, by rw [HK0.out]; go_num, by rw [HK0.out]; omega, Ch.refl _ _⟩
  case round =>
    obtain ⟨k, rfl, hk, rfl, hle, hc⟩ := hrel
    have HC := Lib.hid hc
    obtain ⟨k0, k3, k4, k6⟩ := KX.out wr hc
    by_cases hlt : k < nl
    · have hkl : k < v.lanes.length := by rw [← HNL.out]; exact hlt
      have ltK : (k : Int) < nl := by omega
      by_cases hb : ofK v k ≤ 20000
      · obtain ⟨b, off, hal, c1, c2, c3⟩ := (HV.out.ch (HC0.out.trans' hc)).lane k hkl
        have hr := HRC.out k hkl
        have hr1 : (v.lanes.getD k ln0).roots.length ≤ 140737488355328 := by unfold reachBytes at hr; omega
        have HNX := Lib.hid (HKN.out k hkl)
        rw [hal] at k6
        rw [hal]
        clear hal hc hkl hr c2 c3 k0 k3 k4
        generalize (v.lanes.getD k ln0).roots.length = xl at *
        generalize a.la k = xa at *
        generalize a.lc k = xc at *
        obtain ⟨m, hm⟩ : ∃ m, m = ofK v k := ⟨_, rfl⟩
        have HM := Lib.hid hm
        rw [← hm] at hb hle ⊢
        clear hm
        have hbI : (m : Int) ≤ 20000 := by omega
        go_wp2_with fail
        go_roundw
        case rel => exact ⟨k + 1, by go_num, by omega, by rw [HNX.out, ← HM.out]; go_num, by rw [HNX.out, ← HM.out]; omega, HC.out⟩
        case measure => simp [intOf]; omega
      · have hbI : ¬ (ofK v k : Int) ≤ 20000 := by omega
        clear hc
        go_wp2_with fail
        go_ret
        exact ⟨⟨_, rfl, fun h => absurd h hb⟩, HC0.out.trans' HC.out⟩
    · obtain rfl : nl = k := by omega
      clear hc
      have HZ : Hid (ofK v nl ≤ 20000 → ofV v ≤ 20000) := Lib.hid (by rw [HKA.out]; exact id)
      generalize ofK v nl = m at *
      go_wp2_with fail
      go_ret
      exact ⟨⟨_, rfl, HZ.out⟩, HC0.out.trans' HC.out⟩
/-- The lanes of a lent view: where each one's roots lie. -/
def lsV (v : Vw) (ql : Nat → Nat) (j : Nat) : List Value := [.slice (some ⟨ql j, 0, none⟩) (v.lanes.getD j ln0).roots.length ((v.lanes.getD j ln0).roots.length + 2), .bool (v.lanes.getD j ln0).sc, .bool (v.lanes.getD j ln0).en]
structure LnS (W w : World) (bx : Nat) (v : Vw) (k : Nat) (lv : Value) (lq : List Nat) (ql : Nat → Nat) : Prop where
  row : Row w 71 3 lv lq k ((List.range k).flatMap (lsV v ql))
  lent : ∀ j, j < k → LentWs w (ql j) (v.lanes.getD j ln0).roots
  qlb : ∀ j, j < k → W.heap.size ≤ ql j ∧ ql j < w.heap.size ∧ ql j ∉ lq
  lqb : ∀ q ∈ lq, W.heap.size ≤ q ∧ q < w.heap.size
  ch : Ch [bx] W w
theorem infoLane : (Tryd.prog.info? 71).map (fun i => (i.zero, i.size, i.bytes)) = some (some (.agg #[.slice none 0 0, .bool false, .bool false]), 3, 32) := by kernel_rfl
theorem LnS.start (W : World) (bx : Nat) (v : Vw) : LnS W W bx v 0 (.slice none 0 0) [] (fun _ => 0) :=
  ⟨Row.nil _ _ _ _, fun j hj => absurd hj (by omega), fun j hj => absurd hj (by omega), (fun q hq => by cases hq), Ch.refl _ _⟩
theorem LnS.chg {W w w' : World} {bx : Nat} {v : Vw} {k : Nat} {lv : Value} {lq : List Nat} {ql : Nat → Nat} (h : LnS W w bx v k lv lq ql) (hbx : bx < W.heap.size) (hc : Ch [bx] w w') : LnS W w' bx v k lv lq ql := by
  have hs := hc.size
  refine ⟨h.row.ch hc (fun q hq hm => ?_), fun j hj => ?_, fun j hj => ?_, fun q hq => ?_, h.ch.trans' hc⟩
  · simp at hm; subst hm; have := (h.lqb _ hq).1; omega
  · have := h.qlb j hj
    exact hc.heap (h.lent j hj) (by simp; omega)
  · have := h.qlb j hj; exact ⟨this.1, by omega, this.2.2⟩
  · have := h.lqb q hq; exact ⟨this.1, by omega⟩
/-- What the lanes' row is, as a list of values. -/
theorem lsV_congr (v : Vw) (ql ql' : Nat → Nat) (k : Nat) (h : ∀ j, j < k → ql j = ql' j) : (List.range k).flatMap (lsV v ql) = (List.range k).flatMap (lsV v ql') := by
  induction k with
  | zero => rfl
  | succ k ih =>
    rw [List.range_succ, List.flatMap_append, List.flatMap_append, ih (fun j hj => h j (by omega))]
    simp [lsV, h k (by omega)]
theorem LnS.push {W w w1 w2 : World} {bx : Nat} {v : Vw} {k : Nat} {lv v' : Value} {lq lq' : List Nat} {ql : Nat → Nat} (h : LnS W w bx v k lv lq ql) (hbx : bx < W.heap.size) (hc1 : Ch [bx] w w1) (q : Nat) (hq : w.heap.size ≤ q ∧ q < w1.heap.size) (hl : LentWs w1 q (v.lanes.getD k ln0).roots)
    (hr : Row w2 71 3 v' lq' (k + 1) ((List.range k).flatMap (lsV v ql) ++ [.slice (some ⟨q, 0, none⟩) (v.lanes.getD k ln0).roots.length ((v.lanes.getD k ln0).roots.length + 2), .bool (v.lanes.getD k ln0).sc, .bool (v.lanes.getD k ln0).en])) (hc : Ch lq w1 w2) (hq' : lq' = lq ∨ ∃ q', lq' = [q'] ∧ w1.heap.size ≤ q' ∧ q' < w2.heap.size) : LnS W w2 bx v (k + 1) v' lq' (fun j => if j = k then q else ql j) := by
  have h1 := h.chg hbx hc1
  have hs0 := h.ch.size
  have hs := hc.size
  have hs1 := hc1.size
  have hqn : q ∉ lq := fun hm => by have := h.lqb q hm; omega
  refine ⟨?_, fun j hj => ?_, fun j hj => ?_, fun x hx => ?_, h1.ch.trans hc (fun x hx => .inr (h.lqb x hx).1)⟩
  · rw [List.range_succ, List.flatMap_append, lsV_congr v _ ql k (fun j hj => by rw [if_neg (by omega)])]
    simpa [lsV] using hr
  · by_cases e : j = k
    · subst e
      rw [if_pos rfl]
      exact hc.heap hl hqn
    · rw [if_neg e]
      exact hc.heap (h1.lent j (by omega)) (h1.qlb j (by omega)).2.2
  · by_cases e : j = k
    · subst e
      rw [if_pos rfl]
      refine ⟨by omega, by omega, fun hm => ?_⟩
      rcases hq' with rfl | ⟨q', rfl, g1, g2⟩
      · exact hqn hm
      · simp at hm; omega
    · rw [if_neg e]
      have := h1.qlb j (by omega)
      refine ⟨this.1, by omega, fun hm => ?_⟩
      rcases hq' with rfl | ⟨q', rfl, g1, g2⟩
      · exact this.2.2 hm
      · simp at hm; omega
  · rcases hq' with rfl | ⟨q', rfl, g1, g2⟩
    · have := h1.lqb x hx; exact ⟨this.1, by omega⟩
    · simp at hx; subst hx; exact ⟨by omega, g2⟩
/-- A view in other memory. -/
structure LV (w0 w : World) (v : Vw) (qc qg qgl : Nat) (lv : Value) (lq : List Nat) (ql : Nat → Nat) : Prop where
  c : LentCs w qc v.cells
  g : LentIs w qg v.grey
  gl : LentWs w qgl v.globals
  row : Row w 71 3 lv lq v.lanes.length ((List.range v.lanes.length).flatMap (lsV v ql))
  lent : ∀ j, j < v.lanes.length → LentWs w (ql j) (v.lanes.getD j ln0).roots
  lo : w0.heap.size ≤ qc ∧ qc < qg ∧ qg < qgl
  qlb : ∀ j, j < v.lanes.length → qgl < ql j ∧ ql j < w.heap.size ∧ ql j ∉ lq
  lqb : ∀ q ∈ lq, qgl < q ∧ q < w.heap.size
  ch : Ch [] w0 w
def xArr (v : Vw) (qc qg qgl : Nat) (lv : Value) : Array Value := #[.slice (some ⟨qc, 0, none⟩) v.cells.length (v.cells.length + 2), .int .u8 v.ph, .int .i64 v.sw, .slice (some ⟨qg, 0, none⟩) v.grey.length (v.grey.length + 2), .slice (some ⟨qgl, 0, none⟩) v.globals.length (v.globals.length + 2), .int .i64 v.laid, lv]
set_option maxHeartbeats 4000000 in
theorem lent_any (w : World) (a : VA) (v : Vw) (hv : VM w a v) (hr : VR v) :
    Calls Tryd.prog 24 #[.agg (a.arr v)] w fun e w' => ∃ (qc qg qgl : Nat) (lv : Value) (lq : List Nat) (ql : Nat → Nat), e = .returned (.agg (xArr v qc qg qgl lv)) ∧ LV w w' v qc qg qgl lv lq ql := by
  obtain ⟨W, hW⟩ : ∃ W, W = ((w.alloc (.cells (a.arr v) 65)).alloc (.cells #[.slice none 0 0, .int .u8 0, .int .i64 0, .slice none 0 0, .slice none 0 0, .int .i64 0, .slice none 0 0] 65)).alloc (.cells (a.arr v) 65) := ⟨_, rfl⟩
  have C0 : Ch [] w W := by rw [hW]; exact (((Ch.refl _ _).alloc _).alloc _).alloc _
  have hsz : W.heap.size = w.heap.size + 3 := by rw [hW]; simp
  have hpb : W.heap[w.heap.size]? = some (.cells (a.arr v) 65 (0, 0)) := by rw [hW]; exact heap_old (heap_old (heap_new w _))
  have hrb : W.heap[w.heap.size + 1]? = some (.cells #[.slice none 0 0, .int .u8 0, .int .i64 0, .slice none 0 0, .slice none 0 0, .int .i64 0, .slice none 0 0] 65 (0, 0)) := by
    rw [hW]; refine heap_old ?_
    have := heap_new (w.alloc (.cells (a.arr v) 65)) (.cells #[.slice none 0 0, .int .u8 0, .int .i64 0, .slice none 0 0, .slice none 0 0, .int .i64 0, .slice none 0 0] 65)
    rwa [World.size_alloc] at this
  have hxb : W.heap[w.heap.size + 2]? = some (.cells (a.arr v) 65 (0, 0)) := by
    rw [hW]
    have := heap_new ((w.alloc (.cells (a.arr v) 65)).alloc (.cells #[.slice none 0 0, .int .u8 0, .int .i64 0, .slice none 0 0, .slice none 0 0, .int .i64 0, .slice none 0 0] 65)) (.cells (a.arr v) 65)
    rwa [World.size_alloc, World.size_alloc] at this
  have HV := Lib.hid hv
  have HR := Lib.hid hr
  have HC0 := Lib.hid C0
  have HSZ := Lib.hid hsz
  have HPB := Lib.hid hpb
  have HRB := Lib.hid hrb
  have KP : Hid (∀ w1 : World, Ch [w.heap.size + 2] W w1 → w1.cell? ⟨w.heap.size, 0, none⟩ = some (.slice a.ac v.cells.length a.cc) ∧ w1.cell? ⟨w.heap.size, 3, none⟩ = some (.slice a.ag v.grey.length a.cg) ∧ w1.cell? ⟨w.heap.size, 4, none⟩ = some (.slice a.agl v.globals.length a.cgl) ∧ w1.cell? ⟨w.heap.size, 6, none⟩ = some (.slice a.al v.lanes.length a.cl)) := Lib.hid (fun w1 h1 => by
    have hh := h1.heap HPB.out (by simp)
    unfold VA.arr at hh
    exact ⟨cell_at hh, cell_at hh, cell_at hh, cell_at hh⟩)
  have n1 := hr.n1
  have n2 := hr.n2
  have n3 := hr.n3
  have n4 := hr.n4
  have n5 := hr.n5
  have HCW : Hid (∀ w1 : World, Ch [w.heap.size + 2] W w1 → Ch [] w w1) := Lib.hid (fun w1 h1 => HC0.out.trans h1 (fun x hx => by simp at hx; subst hx; exact .inr (by omega)))
  have HLC := Lib.hid (fun (w1 : World) (h1 : Ch [] w w1) => LentCells_any w1 a.ac v.cells.length a.cc v.cells (by omega) rfl (hv.ch h1).cells)
  have HLI := Lib.hid (fun (w1 : World) (h1 : Ch [] w w1) => LentInts_any w1 a.ag v.grey.length a.cg v.grey (by omega) (hv.ch h1).grey)
  have HLG := Lib.hid (fun (w1 : World) (h1 : Ch [] w w1) => LentWords_any w1 a.agl v.globals.length a.cgl v.globals (by omega) (hv.ch h1).globals)
  have HLR := Lib.hid (fun (w1 : World) (h1 : Ch [] w w1) (j : Nat) (hj : j < v.lanes.length) => LentWords_any w1 (a.la j) (v.lanes.getD j ln0).roots.length (a.lc j) (v.lanes.getD j ln0).roots (by have := rootsN_mem (lane_mem hj); omega) ((hv.ch h1).roots j hj))
  obtain ⟨i0, hi, he⟩ := Option.map_eq_some_iff.1 infoLane
  simp only [Prod.mk.injEq] at he
  obtain ⟨hz0, hz1, hz2⟩ := he
  unfold VA.arr at hW hxb ⊢
  have HXB := Lib.hid hxb
  have HXA : Hid (∀ qc qg qgl lv, xArr v qc qg qgl lv = #[.slice (some ⟨qc, 0, none⟩) v.cells.length (v.cells.length + 2), .int .u8 v.ph, .int .i64 v.sw, .slice (some ⟨qg, 0, none⟩) v.grey.length (v.grey.length + 2), .slice (some ⟨qgl, 0, none⟩) v.globals.length (v.globals.length + 2), .int .i64 v.laid, lv]) := Lib.hid (fun _ _ _ _ => rfl)
  clear hv hr hpb hrb hxb C0
  obtain ⟨nl, hnl⟩ : ∃ nl, nl = v.lanes.length := ⟨_, rfl⟩
  have HNL := Lib.hid hnl
  rw [← hnl] at n4 KP HLR hW HXB ⊢
  clear hnl
  generalize v.cells.length = n at *
  generalize v.grey.length = gl at *
  generalize v.globals.length = ng at *
  obtain ⟨k0, k3, k4, k6⟩ := KP.out W (Ch.refl _ _)
  go_enter Tryd.func24, Tryd.ntmps24
  go_wp2_with fail
  rw [← hW]
  clear hW
  obtain ⟨bx, hbx⟩ : ∃ bx, bx = w.heap.size + 2 := ⟨_, rfl⟩
  have HBX := Lib.hid hbx
  rw [← hbx] at KP HCW HXB ⊢
  have HBW : Hid (bx < W.heap.size) := Lib.hid (by omega)
  have hw0 : w.heap.size ≤ W.heap.size := by omega
  have HPX : Hid (w.heap.size ≠ bx ∧ w.heap.size + 1 ≠ bx) := Lib.hid (by omega)
  clear hbx hsz
  have L1 := HLC.out W HC0.out
  refine L1.mono ?_
  rintro e w1 ⟨qc, rfl, g1, g2, g3⟩
  have HQC := Lib.hid (And.intro g1 g3)
  have HQC2 := Lib.hid (lt_of g1)
  have H1 : Hid (Ch [bx] W w1) := Lib.hid (g2.mono (by simp))
  have b1 := g2.heap HXB.out (by simp)
  have c1 := cell_at (i := 0) b1
  have f1 := free_at (i := 0) b1
  simp only [List.getElem?_toArray, List.getElem?_cons_zero, List.getElem?_cons_succ] at c1
  have B1 := Lib.hid (heap_set (i := 0) b1 (.slice (some ⟨qc, 0, none⟩) n (n + 2)))
  have HQ1 : Hid (∀ w', Ch [bx] w1 w' → LentCs w' qc v.cells) := Lib.hid (fun w' h => h.heap HQC.out.1 (by have := HQC.out.2; have := HBW.out; simp; omega))
  clear L1 g1 g2 g3 k0 k3 k4 k6 b1
  have H2 : Hid (Ch [bx] W (w1.setCell ⟨bx, 0, none⟩ (.slice (some ⟨qc, 0, none⟩) n (n + 2)))) := Lib.hid (H1.out.setCell _ _ (.inl (by simp)))
  have J2 : Hid (Ch [bx] w1 (w1.setCell ⟨bx, 0, none⟩ (.slice (some ⟨qc, 0, none⟩) n (n + 2)))) := Lib.hid ((Ch.refl _ _).setCell _ _ (.inl (by simp)))
  obtain ⟨k0, k3, k4, k6⟩ := KP.out _ H2.out
  go_wp2_with fail
  clear c1 f1
  generalize hw2 : w1.setCell ⟨bx, 0, none⟩ (.slice (some ⟨qc, 0, none⟩) n (n + 2)) = w2 at *
  clear hw2
  have L1 := HLI.out w2 (HCW.out _ H2.out)
  refine L1.mono ?_
  rintro e w3 ⟨qg, rfl, g1, g2, g3⟩
  have HQG : Hid (∀ w', Ch [bx] w3 w' → LentIs w' qg v.grey) := Lib.hid (fun w' h => h.heap g1 (by have := H2.out.size; have := HBW.out; simp; omega))
  have HQG2 := Lib.hid (lt_of g1)
  have HLO1 : Hid (w2.heap.size ≤ qg) := Lib.hid g3
  have H3 : Hid (Ch [bx] W w3) := Lib.hid (H2.out.trans' (g2.mono (by simp)))
  have J3 : Hid (Ch [bx] w1 w3) := Lib.hid (J2.out.trans' (g2.mono (by simp)))
  have b1 := g2.heap B1.out (by simp)
  simp only [List.setIfInBounds_toArray, List.set_cons_zero, List.set_cons_succ] at b1
  have c1 := cell_at (i := 3) b1
  have f1 := free_at (i := 3) b1
  simp only [List.getElem?_toArray, List.getElem?_cons_zero, List.getElem?_cons_succ] at c1
  have B3 := Lib.hid (heap_set (i := 3) b1 (.slice (some ⟨qg, 0, none⟩) gl (gl + 2)))
  clear L1 g1 g2 g3 k0 k3 k4 k6 b1 B1
  have H4 : Hid (Ch [bx] W (w3.setCell ⟨bx, 3, none⟩ (.slice (some ⟨qg, 0, none⟩) gl (gl + 2)))) := Lib.hid (H3.out.setCell _ _ (.inl (by simp)))
  have J4 : Hid (Ch [bx] w1 (w3.setCell ⟨bx, 3, none⟩ (.slice (some ⟨qg, 0, none⟩) gl (gl + 2)))) := Lib.hid (J3.out.setCell _ _ (.inl (by simp)))
  have K4 : Hid (Ch [bx] w3 (w3.setCell ⟨bx, 3, none⟩ (.slice (some ⟨qg, 0, none⟩) gl (gl + 2)))) := Lib.hid ((Ch.refl _ _).setCell _ _ (.inl (by simp)))
  obtain ⟨k0, k3, k4, k6⟩ := KP.out _ H4.out
  go_wp2_with fail
  clear c1 f1
  generalize hw4 : w3.setCell ⟨bx, 3, none⟩ (.slice (some ⟨qg, 0, none⟩) gl (gl + 2)) = w4 at *
  clear hw4
  have L1 := HLG.out w4 (HCW.out _ H4.out)
  refine L1.mono ?_
  rintro e w5 ⟨qgl, rfl, g1, g2, g3⟩
  have HQL : Hid (∀ w', Ch [bx] w5 w' → LentWs w' qgl v.globals) := Lib.hid (fun w' h => h.heap g1 (by have := H4.out.size; have := HBW.out; simp; omega))
  have HQL2 := Lib.hid (lt_of g1)
  have HLO2 : Hid (w4.heap.size ≤ qgl) := Lib.hid g3
  have H5 : Hid (Ch [bx] W w5) := Lib.hid (H4.out.trans' (g2.mono (by simp)))
  have J5 : Hid (Ch [bx] w1 w5) := Lib.hid (J4.out.trans' (g2.mono (by simp)))
  have K5 : Hid (Ch [bx] w3 w5) := Lib.hid (K4.out.trans' (g2.mono (by simp)))
  have b1 := g2.heap B3.out (by simp)
  simp only [List.setIfInBounds_toArray, List.set_cons_zero, List.set_cons_succ] at b1
  have c1 := cell_at (i := 4) b1
  have f1 := free_at (i := 4) b1
  simp only [List.getElem?_toArray, List.getElem?_cons_zero, List.getElem?_cons_succ] at c1
  have b2 := heap_set (i := 4) b1 (.slice (some ⟨qgl, 0, none⟩) ng (ng + 2))
  simp only [List.setIfInBounds_toArray, List.set_cons_zero, List.set_cons_succ] at b2
  have c2 := cell_at (i := 6) b2
  have f2 := free_at (i := 6) b2
  simp only [List.getElem?_toArray, List.getElem?_cons_zero, List.getElem?_cons_succ] at c2
  have b3 := heap_set (i := 6) b2 (.slice none 0 0)
  simp only [List.setIfInBounds_toArray, List.set_cons_zero, List.set_cons_succ] at b3
  have B5 := Lib.hid b3
  clear L1 g1 g2 g3 k0 k3 k4 k6 b1 B3 b2 b3
  have H6 : Hid (Ch [bx] W ((w5.setCell ⟨bx, 4, none⟩ (.slice (some ⟨qgl, 0, none⟩) ng (ng + 2))).setCell ⟨bx, 6, none⟩ (.slice none 0 0))) := Lib.hid ((H5.out.setCell _ _ (.inl (by simp))).setCell _ _ (.inl (by simp)))
  have J6 : Hid (Ch [bx] w1 ((w5.setCell ⟨bx, 4, none⟩ (.slice (some ⟨qgl, 0, none⟩) ng (ng + 2))).setCell ⟨bx, 6, none⟩ (.slice none 0 0))) := Lib.hid ((J5.out.setCell _ _ (.inl (by simp))).setCell _ _ (.inl (by simp)))
  have K6 : Hid (Ch [bx] w3 ((w5.setCell ⟨bx, 4, none⟩ (.slice (some ⟨qgl, 0, none⟩) ng (ng + 2))).setCell ⟨bx, 6, none⟩ (.slice none 0 0))) := Lib.hid ((K5.out.setCell _ _ (.inl (by simp))).setCell _ _ (.inl (by simp)))
  have M6 : Hid (Ch [bx] w5 ((w5.setCell ⟨bx, 4, none⟩ (.slice (some ⟨qgl, 0, none⟩) ng (ng + 2))).setCell ⟨bx, 6, none⟩ (.slice none 0 0))) := Lib.hid (((Ch.refl _ _).setCell _ _ (.inl (by simp))).setCell _ _ (.inl (by simp)))
  go_wp2_with fail
  clear c1 f1 c2 f2
  generalize hw6 : (w5.setCell ⟨bx, 4, none⟩ (.slice (some ⟨qgl, 0, none⟩) ng (ng + 2))).setCell ⟨bx, 6, none⟩ (.slice none 0 0) = w6 at *
  clear hw6
  have HQX : Hid (W.heap.size ≤ qc ∧ qc < qg ∧ qg < qgl ∧ qgl < w6.heap.size) := Lib.hid (by
    have a1 := HQC.out.2
    have a2 := HQC2.out
    have a3 := HLO1.out
    have a4 := HLO2.out
    have a5 := HQG2.out
    have a6 := HQL2.out
    have a7 := M6.out.size
    have a8 := J2.out.size
    have a9 := K4.out.size
    omega)
  have HBW6 : Hid (bx < w6.heap.size) := Lib.hid (by have := HBW.out; have := H6.out.size; omega)
  clear HQC HQC2 HLO1 HLO2 HQG2 HQL2 H1 H2 H3 H4 H5 J2 J3 J4 J5 K4 K5 HBW
  go_loopw [4] (fun i wr => ∃ (k : Nat) (lv : Value) (lq : List Nat) (ql : Nat → Nat), i = .int .i64 k ∧ k ≤ nl ∧ LnS w6 wr bx v k lv lq ql ∧ wr.heap[bx]? = some (.cells #[.slice (some ⟨qc, 0, none⟩) n (n + 2), .int .u8 v.ph, .int .i64 v.sw, .slice (some ⟨qg, 0, none⟩) gl (gl + 2), .slice (some ⟨qgl, 0, none⟩) ng (ng + 2), .int .i64 v.laid, lv] 65 (0, 0))) (fun i _ => nl - (intOf i).toNat)
  case atStart => exact ⟨0, _, _, _, rfl, by omega, LnS.start w6 bx v, B5.out⟩
  case round =>
    obtain ⟨k, lv, lq, ql, rfl, hk, hs, hb⟩ := hrel
    have HS := Lib.hid hs
    have HBB := Lib.hid hb
    obtain ⟨al, cl, rfl, l1, l2, _⟩ := hs.row.rd
    have H7 := Lib.hid (H6.out.trans' hs.ch)
    obtain ⟨k0, k3, k4, k6⟩ := KP.out wr H7.out
    clear hs B5
    by_cases hlt : k < nl
    · have hkl : k < v.lanes.length := by rw [← HNL.out]; exact hlt
      have ltK : (k : Int) < nl := by omega
      obtain ⟨b, off, hal, c1, c2, c3⟩ := (HV.out.ch (HCW.out _ H7.out)).lane k hkl
      have CA : Ch [] wr (wr.alloc (.cells #[.slice (a.la k) (v.lanes.getD k ln0).roots.length (a.lc k), .bool (v.lanes.getD k ln0).sc, .bool (v.lanes.getD k ln0).en] 71)) := (Ch.refl _ _).alloc _
      have HCA := Lib.hid CA
      have LR := HLR.out _ (HCW.out _ (H7.out.trans' (CA.mono (by simp)))) k hlt
      have hnb := heap_new wr (.cells #[.slice (a.la k) (v.lanes.getD k ln0).roots.length (a.lc k), .bool (v.lanes.getD k ln0).sc, .bool (v.lanes.getD k ln0).en] 71)
      have HNB := Lib.hid hnb
      have HPU := Lib.hid (fun (w1 w2 : World) (q : Nat) (v' : Value) (lq' : List Nat) h1 h2 h3 h4 h5 h6 => LnS.push (w1 := w1) (w2 := w2) (v' := v') (lq' := lq') HS.out HBW6.out h1 q h2 h3 h4 h5 h6)
      rw [hal] at k6
      rw [hal]
      clear hal CA hkl hb hnb
      generalize v.lanes.getD k ln0 = x at *
      obtain ⟨xr, xs, xe⟩ := x
      simp only at c1 c2 c3 LR HNB HCA HPU
      generalize hxl : xr.length = xl at *
      have HXL := Lib.hid hxl
      clear hxl
      generalize a.la k = xa at *
      generalize a.lc k = xcap at *
      go_wp2_with fail
      refine LR.mono ?_
      rintro e w8 ⟨q, rfl, g1, g2, g3⟩
      have HQ8 := Lib.hid (And.intro g1 g3)
      have HQL8 := Lib.hid (lt_of g1)
      have hbl := g2.heap HNB.out (by simp)
      have H8 := Lib.hid (HCA.out.trans' g2)
      have HBB8 := Lib.hid (H8.out.heap HBB.out (by simp))
      have hbl2 := heap_set (i := 0) hbl (.slice (some ⟨q, 0, none⟩) xl (xl + 2))
      simp only [List.setIfInBounds_toArray, List.set_cons_zero, List.set_cons_succ] at hbl2
      have d0 := cell_at (i := 0) hbl
      have f0 := free_at (i := 0) hbl
      have e0 := cell_at (i := 0) hbl2
      have e1 := cell_at (i := 1) hbl2
      have e2 := cell_at (i := 2) hbl2
      have hne : wr.heap.size ≠ bx := by have := lt_of HBB.out; omega
      have C9 : Hid (Ch [] wr (w8.setCell ⟨wr.heap.size, 0, none⟩ (.slice (some ⟨q, 0, none⟩) xl (xl + 2)))) := Lib.hid (H8.out.setCell _ _ (.inr (Nat.le_refl _)))
      have hb9 := (heap_set_ne (w := w8) (b := wr.heap.size) (i := 0) (u := .slice (some ⟨q, 0, none⟩) xl (xl + 2)) (Ne.symm hne)).trans HBB8.out
      have b6 := cell_at (i := 6) hb9
      have HB9 := Lib.hid hb9
      simp only [List.getElem?_toArray, List.getElem?_cons_zero, List.getElem?_cons_succ] at d0 e0 e1 e2 b6
      clear LR g1 g2 g3 hbl hbl2 c1 c2 c3 hb9 k0 k3 k4 k6
      have C10 : Ch [] wr ((w8.setCell ⟨wr.heap.size, 0, none⟩ (.slice (some ⟨q, 0, none⟩) xl (xl + 2))).alloc (.cells #[.slice (some ⟨q, 0, none⟩) xl (xl + 2), .bool xs, .bool xe] 71)) := C9.out.alloc _
      have HC10 := Lib.hid C10
      have hs9 : (w8.setCell ⟨wr.heap.size, 0, none⟩ (.slice (some ⟨q, 0, none⟩) xl (xl + 2))).heap.size = w8.heap.size := by simp [World.setCell]
      have HR1 := Lib.hid (HS.out.row.ch C10 (by simp))
      have HN2 := Lib.hid (newL (w := w8.setCell ⟨wr.heap.size, 0, none⟩ (.slice (some ⟨q, 0, none⟩) xl (xl + 2))) (b := w8.heap.size) hs9.symm [.slice (some ⟨q, 0, none⟩) xl (xl + 2), .bool xs, .bool xe] 71)
      have HQ10 : Hid (LentWs ((w8.setCell ⟨wr.heap.size, 0, none⟩ (.slice (some ⟨q, 0, none⟩) xl (xl + 2))).alloc (.cells #[.slice (some ⟨q, 0, none⟩) xl (xl + 2), .bool xs, .bool xe] 71)) q xr) := Lib.hid (heap_old ((heap_set_ne (by have := HQ8.out.2; rw [World.size_alloc] at this; omega)).trans HQ8.out.1))
      have HSZ10 : Hid (wr.heap.size ≤ q ∧ q < ((w8.setCell ⟨wr.heap.size, 0, none⟩ (.slice (some ⟨q, 0, none⟩) xl (xl + 2))).alloc (.cells #[.slice (some ⟨q, 0, none⟩) xl (xl + 2), .bool xs, .bool xe] 71)).heap.size) := Lib.hid (by
        have h1 := HQ8.out.2
        have h2 := HQL8.out
        rw [World.size_alloc] at h1
        rw [World.size_alloc, hs9]
        omega)
      have HB10 := Lib.hid (heap_old (o' := .cells #[.slice (some ⟨q, 0, none⟩) xl (xl + 2), .bool xs, .bool xe] 71) HB9.out)
      have HS9 := Lib.hid hs9
      clear C10 hs9
      go_wp2_with (at_builtin; go_loud (refine wpList_append_row _ rfl _ _ 63 rfl 71 i0 _ 3 32 Tryd.underlying63 hi hz0 hz1 hz2 rfl (by decide) rfl HR1.out ⟨w8.heap.size, 0, none⟩ 1 1 [.slice (some ⟨q, 0, none⟩) xl (xl + 2), .bool xs, .bool xe] rfl rfl HN2.out (by intro u hu; simp at hu; rcases hu with rfl | rfl | rfl <;> rfl) (by unfold maxLen; omega) (by omega) ?_))
      intro v' w11 lq' hr4 hc4 hq4
      have S11 := Lib.hid (HPU.out _ w11 q v' lq' (HC10.out.mono (by simp)) HSZ10.out HQ10.out hr4 hc4 (by rw [World.size_alloc, HS9.out]; exact hq4))
      obtain ⟨ao5, cap5, rfl, _⟩ := hr4.rd
      have hb11 := hc4.heap HB10.out (fun hm => by have h1 := (HS.out.lqb _ hm).1; have h2 := HBW6.out; omega)
      have c6 := cell_at (i := 6) hb11
      have f6 := free_at (i := 6) hb11
      have B12 := Lib.hid (heap_set (i := 6) hb11 (.slice ao5 (k + 1) cap5))
      simp only [List.getElem?_toArray, List.getElem?_cons_zero, List.getElem?_cons_succ] at c6
      clear hr4 hc4 hq4 hb11 HR1 HN2 HQ10 HB10 d0 f0 e0 e1 e2 b6
      go_wp2_with fail
      go_roundw
      case rel => exact ⟨k + 1, _, lq', _, by go_num, by omega, S11.out.chg HBW6.out ((Ch.refl _ _).setCell _ _ (.inl (by simp))), by have := B12.out; simpa using this⟩
      case measure => simp [intOf]; omega
    · obtain rfl : nl = k := by omega
      have hrb := (H7.out.heap HRB.out (by have := HPX.out; simp; omega))
      have y0 := cell_at (i := 0) hb
      have y1 := cell_at (i := 1) hb
      have y2 := cell_at (i := 2) hb
      have y3 := cell_at (i := 3) hb
      have y4 := cell_at (i := 4) hb
      have y5 := cell_at (i := 5) hb
      have y6 := cell_at (i := 6) hb
      have r0 := cell_at (i := 0) hrb
      have r1 := cell_at (i := 1) hrb
      have r2 := cell_at (i := 2) hrb
      have r3 := cell_at (i := 3) hrb
      have r4 := cell_at (i := 4) hrb
      have r5 := cell_at (i := 5) hrb
      have r6 := cell_at (i := 6) hrb
      have HRBB := Lib.hid hrb
      simp only [List.getElem?_toArray, List.getElem?_cons_zero, List.getElem?_cons_succ] at y0 y1 y2 y3 y4 y5 y6 r0 r1 r2 r3 r4 r5 r6
      have f0 := free_at (i := 0) hrb
      have f1 := free_at (i := 1) hrb
      have f2 := free_at (i := 2) hrb
      have f3 := free_at (i := 3) hrb
      have f4 := free_at (i := 4) hrb
      have f5 := free_at (i := 5) hrb
      have f6 := free_at (i := 6) hrb
      clear hb hrb k0 k3 k4
      have b7 := heap_set (i := 6) (heap_set (i := 5) (heap_set (i := 4) (heap_set (i := 3) (heap_set (i := 2) (heap_set (i := 1) (heap_set (i := 0) HRBB.out (.slice (some ⟨qc, 0, none⟩) n (n + 2))) (.int .u8 v.ph)) (.int .i64 v.sw)) (.slice (some ⟨qg, 0, none⟩) gl (gl + 2))) (.slice (some ⟨qgl, 0, none⟩) ng (ng + 2))) (.int .i64 v.laid)) (.slice al nl cl)
      simp only [List.setIfInBounds_toArray, List.set_cons_zero, List.set_cons_succ] at b7
      have HB7 := Lib.hid b7
      have HCF : Hid (Ch [w.heap.size + 1] wr (((((((wr.setCell ⟨w.heap.size + 1, 0, none⟩ (.slice (some ⟨qc, 0, none⟩) n (n + 2))).setCell ⟨w.heap.size + 1, 1, none⟩ (.int .u8 v.ph)).setCell ⟨w.heap.size + 1, 2, none⟩ (.int .i64 v.sw)).setCell ⟨w.heap.size + 1, 3, none⟩ (.slice (some ⟨qg, 0, none⟩) gl (gl + 2))).setCell ⟨w.heap.size + 1, 4, none⟩ (.slice (some ⟨qgl, 0, none⟩) ng (ng + 2))).setCell ⟨w.heap.size + 1, 5, none⟩ (.int .i64 v.laid)).setCell ⟨w.heap.size + 1, 6, none⟩ (.slice al nl cl))) := Lib.hid (((((((((Ch.refl _ _).setCell _ _ (.inl (by simp))).setCell _ _ (.inl (by simp))).setCell _ _ (.inl (by simp))).setCell _ _ (.inl (by simp))).setCell _ _ (.inl (by simp))).setCell _ _ (.inl (by simp))).setCell _ _ (.inl (by simp))))
      clear b7
      go_wp2_with fail
      clear y0 y1 y2 y3 y4 y5 y6 r0 r1 r2 r3 r4 r5 r6 f0 f1 f2 f3 f4 f5 f6 k6
      generalize ((((((wr.setCell ⟨w.heap.size + 1, 0, none⟩ (.slice (some ⟨qc, 0, none⟩) n (n + 2))).setCell ⟨w.heap.size + 1, 1, none⟩ (.int .u8 v.ph)).setCell ⟨w.heap.size + 1, 2, none⟩ (.int .i64 v.sw)).setCell ⟨w.heap.size + 1, 3, none⟩ (.slice (some ⟨qg, 0, none⟩) gl (gl + 2))).setCell ⟨w.heap.size + 1, 4, none⟩ (.slice (some ⟨qgl, 0, none⟩) ng (ng + 2))).setCell ⟨w.heap.size + 1, 5, none⟩ (.int .i64 v.laid)).setCell ⟨w.heap.size + 1, 6, none⟩ (.slice al nl cl) = wf at *
      have z0 := cell_at (i := 0) HB7.out
      have z1 := cell_at (i := 1) HB7.out
      have z2 := cell_at (i := 2) HB7.out
      have z3 := cell_at (i := 3) HB7.out
      have z4 := cell_at (i := 4) HB7.out
      have z5 := cell_at (i := 5) HB7.out
      have z6 := cell_at (i := 6) HB7.out
      simp only [List.getElem?_toArray, List.getElem?_cons_zero, List.getElem?_cons_succ] at z0 z1 z2 z3 z4 z5 z6
      refine bodyPost_ret (v := .agg #[.slice (some ⟨qc, 0, none⟩) n (n + 2), .int .u8 v.ph, .int .i64 v.sw, .slice (some ⟨qg, 0, none⟩) gl (gl + 2), .slice (some ⟨qgl, 0, none⟩) ng (ng + 2), .int .i64 v.laid, .slice al nl cl]) (by simp [results, Tryd.f24, go_sem, z0, z1, z2, z3, z4, z5, z6]) rfl ?_
      have hsf := HCF.out.size
      have hs6 := HS.out.ch.size
      obtain ⟨x1, x2, x3, x4⟩ := HQX.out
      have hrbl : w.heap.size + 1 < w6.heap.size := by have := HSZ.out; omega
      have hcw := HCW.out _ H7.out
      refine ⟨qc, qg, qgl, .slice al nl cl, lq, ql, by rw [HXA.out], ?_, ?_, ?_, ?_, ?_, ⟨by omega, x2, x3⟩, ?_, ?_, hcw.trans HCF.out (fun x hx => by simp at hx; subst hx; exact .inr (by omega))⟩
      · exact HCF.out.heap (HQ1.out _ (J6.out.trans' HS.out.ch)) (by have := HSZ.out; simp; omega)
      · exact HCF.out.heap (HQG.out _ (K6.out.trans' HS.out.ch)) (by have := HSZ.out; simp; omega)
      · exact HCF.out.heap (HQL.out _ (M6.out.trans' HS.out.ch)) (by have := HSZ.out; simp; omega)
      · rw [← HNL.out]
        exact HS.out.row.ch HCF.out (fun q hq hm => by simp at hm; subst hm; have := (HS.out.lqb _ hq).1; omega)
      · rw [← HNL.out]
        exact fun j hj => HCF.out.heap (HS.out.lent j hj) (by have := (HS.out.qlb j hj).1; simp; omega)
      · rw [← HNL.out]
        exact fun j hj => by have := HS.out.qlb j hj; exact ⟨by omega, by omega, this.2.2⟩
      · exact fun q hq => by have := HS.out.lqb q hq; exact ⟨by omega, by omega⟩
end Go.Proofs.YtlhhcocdhkbdnaaDoor.L13
