/-
  THE WALKS of BarrierKeeps, on: own; any step.
-/
import Derived.Test.YtlhhcocdhkbdnaaDoorQKeepW12
import Derived.Test.YtlhhcocdhkbdnaaDoorQJKeepM3
set_option linter.unusedVariables false
set_option linter.unusedSimpArgs false
set_option maxRecDepth 100000
namespace Go.Proofs.YtlhhcocdhkbdnaaDoor.Kp
open Go.RowKit Go.Proofs.YtlhhcocdhkbdnaaDoor.Wd Go.Proofs.YtlhhcocdhkbdnaaDoor.Hp Go.Proofs.YtlhhcocdhkbdnaaDoor.Gp Go.Proofs.YtlhhcocdhkbdnaaDoor.Sm Go.Proofs.YtlhhcocdhkbdnaaDoor.Gr Go.Proofs.YtlhhcocdhkbdnaaDoor.Bp Go.Proofs.YtlhhcocdhkbdnaaDoor.Own
/-- Any step. -/
theorem step_any {w0 w : World} {O : Nat → Nat} {wp : Nat} {a : VA} {v : Vw} (h : WM w0 w O wp a v) (gv : GV v) (hb : Bnd w0) (s : S5) (hs : SI s) :
    Calls Tryd.prog 31 #[.pointer (some ⟨wp, 0, none⟩), .agg (stA s)] w fun e w' => e = .returned (.bool true) ∧ MX w0 w O w' wp (stepS v s) := by
  by_cases h1 : 10 ≤ s.kd
  · exact stepA h gv hb s hs h1
  · by_cases h2 : v.lanes.length = 0
    · exact stepB h gv hb s hs (by omega) h2
    · cases hen : (v.lanes.getD (pickN s.who v.lanes.length) ln0).en
      · by_cases h8 : s.kd = 8
        · exact stepD h gv hb s hs h8 (by omega) hen
        · exact stepE h gv hb s hs (by omega) h8 (by omega) hen
      · exact stepC h gv hb s hs (by omega) (by omega) hen
def takeV (v : Vw) (k : Nat) : Vw := { v with lanes := v.lanes.take k }
theorem takeV_len (v : Vw) (k : Nat) (h : k ≤ v.lanes.length) : (takeV v k).lanes.length = k := by unfold takeV; simp; omega
theorem takeV_next (v : Vw) (k : Nat) (h : k < v.lanes.length) : addL (takeV v k) (v.lanes.getD k ln0) = takeV v (k + 1) := by
  unfold takeV addL
  rw [take_snoc v.lanes k ln0 h]
theorem takeV_all (v : Vw) : takeV v v.lanes.length = v := by unfold takeV; rw [List.take_length]
theorem infoCelK : (Tryd.prog.info? 58).map (fun i => (i.zero, i.size, i.bytes)) = some (some (.agg #[.int .u8 0, .int .u8 0, .int .u64 0, .int .u64 0]), 4, 24) := by kernel_rfl
theorem flat_one (l : List Cel) : ∀ u ∈ flat l, u.oneCell' = true := by
  intro u hu
  unfold flat at hu
  obtain ⟨x, _, hx⟩ := List.mem_flatMap.1 hu
  unfold celV at hx
  simp at hx
  rcases hx with rfl | rfl | rfl | rfl <;> rfl
theorem ints_oneO (k : IntKind) (ws : List Int) : ∀ u ∈ ints k ws, u.oneCell' = true := by
  intro u hu
  unfold ints at hu
  obtain ⟨x, _, rfl⟩ := List.mem_map.1 hu
  rfl
theorem rd_ofF {w : World} {ao : Option Addr} {n : Nat} {xs : List Value} {S : List Nat} (h : RdF w ao n xs S) : Hp.Rd w ao n xs := ⟨h.1, h.2.imp id (fun ⟨b, off, a, _, c⟩ => ⟨b, off, a, c⟩)⟩
/-- APPEND of anybody's list onto nothing, as one step of a region that draws its order. -/
theorem step_append_copy {P : Program} {ops : Array Oper} {o : Oper} {a : Act} {w : World} {K : Act → World → Prop} {Q : Exit → Act → World → Prop} {E : Prop}
    (hg : o.guard = none) (s x : Operand) (t : TypeId) (hop : o.op = Op.call { callee := Callee.builtin Builtin.append, args := #[s, x], argTypes := #[t, t] })
    (e : TypeId) (i : TypeInfo) (z : Value) (size bytes : Nat) (h1 : P.underlying t = some (.slice e)) (h2 : P.info? e = some i) (h3 : i.zero = some z) (h4 : i.size = size) (h5 : i.bytes = bytes) (h6 : z.cells.size = size) (h7 : 0 < size)
    (hs : a.eval s = .slice none 0 0) (ao : Option Addr) (m c : Nat) (hx : a.eval x = .slice ao m c) (xs : List Value) (hr : Hp.Rd w ao (m * size) xs) (h1c : ∀ u ∈ xs, u.oneCell' = true) (hm : m ≤ maxLen) (hbytes : m * bytes ≤ 140737488355328)
    (hK : ∀ v' w' qs', Row w' e size v' qs' m xs → Ch [] w w' → (qs' = [] ∨ ∃ q', qs' = [q'] ∧ w.heap.size ≤ q' ∧ q' < w'.heap.size) → K (a.put o.dst v') w') :
    if Region.wanted o (yielded ops a.tmps) = true then Oper.wp P o a w K Q else E := by
  by_cases hm0 : m = 0
  · subst hm0
    have hw : Region.wanted o (yielded ops a.tmps) = true := by simp [Region.wanted, hg]
    rw [if_pos hw]
    have hx0 : xs = [] := List.eq_nil_of_length_eq_zero (by simpa using hr.1)
    subst hx0
    have hk := hK (.slice none 0 0) w [] (Row.nil _ _ _ _) (Ch.refl _ _) (.inl rfl)
    unfold Oper.wp
    cases ao with
    | none =>
      simp [execOp, hop, resolve, invoke, builtin, hs, hx, Builtin.append_, run_underlying h1, sizeOf, typeInfo, h2, Builtin.lenOf, Builtin.firstCells, storeCells, Result.andThen]
      exact hk
    | some ad =>
      have hf := run_firstCells_some (P := P) w i.size 0 ad 0 c [] (by simp) (fun j u h => by simp at h)
      simp [execOp, hop, resolve, invoke, builtin, hs, hx, Builtin.append_, run_underlying h1, sizeOf, typeInfo, h2, Builtin.lenOf, hf, storeCells, Result.andThen]
      exact hk
  · obtain ⟨b, off, rfl, hj⟩ := hr.2.resolve_left (Nat.mul_ne_zero hm0 (by omega))
    refine step_append_row hg s x t hop e i z size bytes h1 h2 h3 h4 h5 h6 h7 hs (Row.nil w e size []) ⟨b, off, none⟩ m c xs hx hr.1 (fun j u hu => ?_) h1c (by omega) (by simpa using hbytes) ?_
    · rw [Addr.add_lit]
      have hlt : j < m * size := by
        rcases Nat.lt_or_ge j (m * size) with h | h
        · exact h
        · rw [List.getElem?_eq_none (by rw [hr.1]; exact h)] at hu; cases hu
      exact (hj j hlt).trans hu
    · intro v' w' qs' g1 g2 g3
      exact hK v' w' qs' (by simpa using g1) g2 (by simpa using g3)
set_option maxHeartbeats 8000000 in
theorem own_any (w : World) (a : VA) (v : Vw) (hv : VM w a v) (hr : VR v) :
    Calls Tryd.prog 30 #[.agg (a.arr v)] w fun e w' => ∃ (O : Nat → Nat) (a' : VA), e = .returned (.agg (a'.arr v)) ∧ OM w w' O a' v := by
  have HV := Lib.hid hv
  have HR := Lib.hid hr
  have n1 := hr.n1
  have n2 := hr.n2
  have n3 := hr.n3
  have n4 := hr.n4
  have n5 := hr.n5
  obtain ⟨ic, hic, hec⟩ := Option.map_eq_some_iff.1 infoCelK
  simp only [Prod.mk.injEq] at hec
  obtain ⟨hc0, hc1, hc2⟩ := hec
  obtain ⟨ii, hii, hei⟩ := Option.map_eq_some_iff.1 Gr.infoInt
  simp only [Prod.mk.injEq] at hei
  obtain ⟨hi0, hi1, hi2⟩ := hei
  obtain ⟨iw, hiw, hew⟩ := Option.map_eq_some_iff.1 Gr.infoWord
  simp only [Prod.mk.injEq] at hew
  obtain ⟨hw0, hw1, hw2⟩ := hew
  obtain ⟨il, hil, hel⟩ := Option.map_eq_some_iff.1 infoLaneK
  simp only [Prod.mk.injEq] at hel
  obtain ⟨hl0, hl1, hl2⟩ := hel
  have HRC := Lib.hid (fun (w1 : World) (h1 : Ch [] w w1) => rd_ofF (hv.ch h1).cells)
  have HRG := Lib.hid (fun (w1 : World) (h1 : Ch [] w w1) => rd_ofF (hv.ch h1).grey)
  have HRL := Lib.hid (fun (w1 : World) (h1 : Ch [] w w1) => rd_ofF (hv.ch h1).globals)
  have HRR := Lib.hid (fun (w1 : World) (h1 : Ch [] w w1) (j : Nat) (hj : j < v.lanes.length) => rd_ofF ((hv.ch h1).roots j hj))
  have HRN := Lib.hid (fun (j : Nat) (hj : j < v.lanes.length) => (by have := rootsN_mem (lane_mem hj); omega : (v.lanes.getD j ln0).roots.length ≤ 100000))
  have hf1 := Lib.hid (flat_one v.cells)
  have hf2 := Lib.hid (ints_oneO .i64 v.grey)
  have hf3 := Lib.hid (ints_oneO .u64 v.globals)
  obtain ⟨W, hW⟩ : ∃ W, W = ((w.alloc (.cells (a.arr v) 65)).alloc (.cells #[.slice none 0 0, .int .u8 0, .int .i64 0, .slice none 0 0, .slice none 0 0, .int .i64 0, .slice none 0 0] 65)).alloc (.cells #[.slice none 0 0, .int .u8 v.ph, .int .i64 v.sw, .slice a.ag v.grey.length a.cg, .slice a.agl v.globals.length a.cgl, .int .i64 v.laid, .slice a.al v.lanes.length a.cl] 65) := ⟨_, rfl⟩
  have HC0 : Hid (Ch [] w W) := Lib.hid (by rw [hW]; exact (((Ch.refl _ _).alloc _).alloc _).alloc _)
  have HSZ : Hid (W.heap.size = w.heap.size + 3) := Lib.hid (by rw [hW]; simp)
  have HPB : Hid (W.heap[w.heap.size]? = some (.cells (a.arr v) 65 (0, 0))) := Lib.hid (by rw [hW]; exact heap_old (heap_old (heap_new w _)))
  have HRB : Hid (W.heap[w.heap.size + 1]? = some (.cells #[.slice none 0 0, .int .u8 0, .int .i64 0, .slice none 0 0, .slice none 0 0, .int .i64 0, .slice none 0 0] 65 (0, 0))) := Lib.hid (by
    rw [hW]; refine heap_old ?_
    have := heap_new (w.alloc (.cells (a.arr v) 65)) (.cells #[.slice none 0 0, .int .u8 0, .int .i64 0, .slice none 0 0, .slice none 0 0, .int .i64 0, .slice none 0 0] 65)
    rwa [World.size_alloc] at this)
  have HXB : Hid (W.heap[w.heap.size + 2]? = some (.cells #[.slice none 0 0, .int .u8 v.ph, .int .i64 v.sw, .slice a.ag v.grey.length a.cg, .slice a.agl v.globals.length a.cgl, .int .i64 v.laid, .slice a.al v.lanes.length a.cl] 65 (0, 0))) := Lib.hid (by
    rw [hW]
    have := heap_new ((w.alloc (.cells (a.arr v) 65)).alloc (.cells #[.slice none 0 0, .int .u8 0, .int .i64 0, .slice none 0 0, .slice none 0 0, .int .i64 0, .slice none 0 0] 65)) (.cells #[.slice none 0 0, .int .u8 v.ph, .int .i64 v.sw, .slice a.ag v.grey.length a.cg, .slice a.agl v.globals.length a.cgl, .int .i64 v.laid, .slice a.al v.lanes.length a.cl] 65)
    rwa [World.size_alloc, World.size_alloc] at this)
  have KP : Hid (∀ w1 : World, Ch [w.heap.size + 2] W w1 → w1.cell? ⟨w.heap.size, 0, none⟩ = some (.slice a.ac v.cells.length a.cc) ∧ w1.cell? ⟨w.heap.size, 3, none⟩ = some (.slice a.ag v.grey.length a.cg) ∧ w1.cell? ⟨w.heap.size, 4, none⟩ = some (.slice a.agl v.globals.length a.cgl) ∧ w1.cell? ⟨w.heap.size, 6, none⟩ = some (.slice a.al v.lanes.length a.cl)) := Lib.hid (fun w1 h1 => by
    have hh := h1.heap HPB.out (by simp)
    unfold VA.arr at hh
    exact ⟨cell_at hh, cell_at hh, cell_at hh, cell_at hh⟩)
  have HCW : Hid (∀ w1 : World, Ch [w.heap.size + 2] W w1 → Ch [] w w1) := Lib.hid (fun w1 h1 => HC0.out.trans h1 (fun x hx => by simp at hx; subst hx; exact .inr (by omega)))
  unfold VA.arr at hW ⊢
  clear hv hr
  obtain ⟨nl, hnl⟩ : ∃ nl, nl = v.lanes.length := ⟨_, rfl⟩
  have HNL := Lib.hid hnl
  rw [← hnl] at n4 HXB KP hW HRR HRN ⊢
  clear hnl
  generalize hn : v.cells.length = n at *
  generalize hgl : v.grey.length = gl at *
  generalize hng : v.globals.length = ng at *
  have HN := Lib.hid hn
  have HGL := Lib.hid hgl
  have HNG := Lib.hid hng
  clear hn hgl hng
  go_enter Tryd.func30, Tryd.ntmps30
  go_upto_region 3 with fail
  rw [← hW]
  clear hW
  obtain ⟨bx, hbx⟩ : ∃ bx, bx = w.heap.size + 2 := ⟨_, rfl⟩
  have hbx1 : w.heap.size + 1 + 1 = bx := by omega
  rw [hbx1]
  rw [← hbx] at KP HCW HXB
  have HBX := Lib.hid hbx
  have HBW : Hid (bx < W.heap.size) := Lib.hid (by have := HSZ.out; omega)
  clear hbx hbx1
  have b0 := HXB.out
  have c0 := cell_at (i := 0) b0
  simp only [List.getElem?_toArray, List.getElem?_cons_zero, List.getElem?_cons_succ] at c0
  obtain ⟨k0, k3, k4, k6⟩ := KP.out W (Ch.refl _ _)
  clear k3 k4 k6
  go_wp2_with (at_builtin; go_loud (refine wpList_append_copy _ rfl _ _ 25 rfl 58 ic _ 4 24 Tryd.underlying25 hic hc0 hc1 hc2 rfl (by decide) rfl a.ac n a.cc rfl (flat v.cells) (HRC.out W HC0.out) hf1.out (by unfold maxLen; omega) (by omega) ?_))
  intro v1 w1 q1 hr1 hc1' hq1
  obtain ⟨ac1, cc1, rfl, _⟩ := hr1.rd
  have b1 := hc1'.heap b0 (by simp)
  have f0 := free_at (i := 0) b1
  have c1 := cell_at (i := 0) b1
  have b2 := heap_set (i := 0) b1 (.slice ac1 n cc1)
  simp only [List.setIfInBounds_toArray, List.set_cons_zero, List.set_cons_succ] at b2
  have f3 := free_at (i := 3) b2
  have c2 := cell_at (i := 3) b2
  simp only [List.getElem?_toArray, List.getElem?_cons_zero, List.getElem?_cons_succ] at c1 c2
  have b3 := heap_set (i := 3) b2 (.slice none 0 0)
  simp only [List.setIfInBounds_toArray, List.set_cons_zero, List.set_cons_succ] at b3
  have HB3 := Lib.hid b3
  have HR1 := Lib.hid hr1
  have HQ1 := Lib.hid hq1
  have H1 : Hid (Ch [bx] W ((w1.setCell ⟨bx, 0, none⟩ (.slice ac1 n cc1)).setCell ⟨bx, 3, none⟩ (.slice none 0 0))) := Lib.hid (((hc1'.mono (by simp)).setCell _ _ (.inl (by simp))).setCell _ _ (.inl (by simp)))
  have J1 : Hid (Ch [bx] w1 ((w1.setCell ⟨bx, 0, none⟩ (.slice ac1 n cc1)).setCell ⟨bx, 3, none⟩ (.slice none 0 0))) := Lib.hid (((Ch.refl _ _).setCell _ _ (.inl (by simp))).setCell _ _ (.inl (by simp)))
  have S1 : Hid (W.heap.size ≤ w1.heap.size) := Lib.hid hc1'.size
  clear hr1 hq1 b0 c0 b1 b2 b3 k0 hc1'
  go_upto_region 5 with fail
  clear f0 f3 c1 c2
  generalize (w1.setCell ⟨bx, 0, none⟩ (.slice ac1 n cc1)).setCell ⟨bx, 3, none⟩ (.slice none 0 0) = w2 at *
  have b0 := HB3.out
  have c0 := cell_at (i := 3) b0
  simp only [List.getElem?_toArray, List.getElem?_cons_zero, List.getElem?_cons_succ] at c0
  obtain ⟨k0, k3, k4, k6⟩ := KP.out w2 H1.out
  clear k0 k4 k6
  go_wp2_with (at_builtin; go_loud (refine wpList_append_copy _ rfl _ _ 50 rfl 3 ii _ 1 8 Tryd.underlying50 hii hi0 hi1 hi2 rfl (by decide) rfl a.ag gl a.cg rfl (ints .i64 v.grey) (by have := HRG.out w2 (HCW.out _ H1.out); rwa [Nat.mul_one]) hf2.out (by unfold maxLen; omega) (by omega) ?_))
  intro v3 w3 q3 hr3 hc3' hq3
  obtain ⟨ac3, cc3, rfl, _⟩ := hr3.rd
  have b1 := hc3'.heap b0 (by simp)
  have f0 := free_at (i := 3) b1
  have c1 := cell_at (i := 3) b1
  have b2 := heap_set (i := 3) b1 (.slice ac3 gl cc3)
  simp only [List.setIfInBounds_toArray, List.set_cons_zero, List.set_cons_succ] at b2
  have f3 := free_at (i := 4) b2
  have c2 := cell_at (i := 4) b2
  simp only [List.getElem?_toArray, List.getElem?_cons_zero, List.getElem?_cons_succ] at c1 c2
  have b3 := heap_set (i := 4) b2 (.slice none 0 0)
  simp only [List.setIfInBounds_toArray, List.set_cons_zero, List.set_cons_succ] at b3
  have HB5 := Lib.hid b3
  have HR3 := Lib.hid hr3
  have HQ3 := Lib.hid hq3
  have H3 : Hid (Ch [bx] W ((w3.setCell ⟨bx, 3, none⟩ (.slice ac3 gl cc3)).setCell ⟨bx, 4, none⟩ (.slice none 0 0))) := Lib.hid (((H1.out.trans' (hc3'.mono (by simp))).setCell _ _ (.inl (by simp))).setCell _ _ (.inl (by simp)))
  have J3 : Hid (Ch [bx] w1 ((w3.setCell ⟨bx, 3, none⟩ (.slice ac3 gl cc3)).setCell ⟨bx, 4, none⟩ (.slice none 0 0))) := Lib.hid (((J1.out.trans' (hc3'.mono (by simp))).setCell _ _ (.inl (by simp))).setCell _ _ (.inl (by simp)))
  have K3 : Hid (Ch [bx] w3 ((w3.setCell ⟨bx, 3, none⟩ (.slice ac3 gl cc3)).setCell ⟨bx, 4, none⟩ (.slice none 0 0))) := Lib.hid (((Ch.refl _ _).setCell _ _ (.inl (by simp))).setCell _ _ (.inl (by simp)))
  have S3 : Hid (w1.heap.size ≤ w2.heap.size ∧ w2.heap.size ≤ w3.heap.size) := Lib.hid ⟨J1.out.size, hc3'.size⟩
  clear hr3 hq3 b0 c0 b1 b2 b3 k3 hc3' H1 J1 HB3
  go_upto_region 7 with fail
  clear f0 f3 c1 c2
  generalize (w3.setCell ⟨bx, 3, none⟩ (.slice ac3 gl cc3)).setCell ⟨bx, 4, none⟩ (.slice none 0 0) = w4 at *
  have b0 := HB5.out
  have c0 := cell_at (i := 4) b0
  simp only [List.getElem?_toArray, List.getElem?_cons_zero, List.getElem?_cons_succ] at c0
  obtain ⟨k0, k3, k4, k6⟩ := KP.out w4 H3.out
  clear k0 k3 k6
  go_wp2_with (at_builtin; go_loud (refine wpList_append_copy _ rfl _ _ 62 rfl 24 iw _ 1 8 Tryd.underlying62 hiw hw0 hw1 hw2 rfl (by decide) rfl a.agl ng a.cgl rfl (ints .u64 v.globals) (by have := HRL.out w4 (HCW.out _ H3.out); rwa [Nat.mul_one]) hf3.out (by unfold maxLen; omega) (by omega) ?_))
  intro v5 w5 q5 hr5 hc5' hq5
  obtain ⟨ac5, cc5, rfl, _⟩ := hr5.rd
  have b1 := hc5'.heap b0 (by simp)
  have f0 := free_at (i := 4) b1
  have c1 := cell_at (i := 4) b1
  have b2 := heap_set (i := 4) b1 (.slice ac5 ng cc5)
  simp only [List.setIfInBounds_toArray, List.set_cons_zero, List.set_cons_succ] at b2
  have f3 := free_at (i := 6) b2
  have c2 := cell_at (i := 6) b2
  simp only [List.getElem?_toArray, List.getElem?_cons_zero, List.getElem?_cons_succ] at c1 c2
  have b3 := heap_set (i := 6) b2 (.slice none 0 0)
  simp only [List.setIfInBounds_toArray, List.set_cons_zero, List.set_cons_succ] at b3
  have HB7 := Lib.hid b3
  have H5 : Hid (Ch [bx] W ((w5.setCell ⟨bx, 4, none⟩ (.slice ac5 ng cc5)).setCell ⟨bx, 6, none⟩ (.slice none 0 0))) := Lib.hid (((H3.out.trans' (hc5'.mono (by simp))).setCell _ _ (.inl (by simp))).setCell _ _ (.inl (by simp)))
  have J5 : Hid (Ch [bx] w1 ((w5.setCell ⟨bx, 4, none⟩ (.slice ac5 ng cc5)).setCell ⟨bx, 6, none⟩ (.slice none 0 0))) := Lib.hid (((J3.out.trans' (hc5'.mono (by simp))).setCell _ _ (.inl (by simp))).setCell _ _ (.inl (by simp)))
  have K5 : Hid (Ch [bx] w3 ((w5.setCell ⟨bx, 4, none⟩ (.slice ac5 ng cc5)).setCell ⟨bx, 6, none⟩ (.slice none 0 0))) := Lib.hid (((K3.out.trans' (hc5'.mono (by simp))).setCell _ _ (.inl (by simp))).setCell _ _ (.inl (by simp)))
  have M5 : Hid (Ch [bx] w5 ((w5.setCell ⟨bx, 4, none⟩ (.slice ac5 ng cc5)).setCell ⟨bx, 6, none⟩ (.slice none 0 0))) := Lib.hid (((Ch.refl _ _).setCell _ _ (.inl (by simp))).setCell _ _ (.inl (by simp)))
  have S5 : Hid (w3.heap.size ≤ w4.heap.size ∧ w4.heap.size ≤ w5.heap.size) := Lib.hid ⟨K3.out.size, hc5'.size⟩
  have OS : Hid (∃ O, OM w ((w5.setCell ⟨bx, 4, none⟩ (.slice ac5 ng cc5)).setCell ⟨bx, 6, none⟩ (.slice none 0 0)) O ⟨ac1, cc1, ac3, cc3, ac5, cc5, none, 0, fun _ => none, fun _ => 0⟩ (takeV v 0) ∧ ∀ x, x < W.heap.size → O x = 0) := Lib.hid (by
    have s1 := S1.out
    have s3 := S3.out
    have s5 := S5.out
    have s6 := M5.out.size
    have s0 := HC0.out.size
    have hb := HBW.out
    have e1 : ∀ x ∈ q1, W.heap.size ≤ x ∧ x < w1.heap.size := fun x hx => by
      rcases HQ1.out with e | ⟨q', e, g1, g2⟩
      · rw [e] at hx; cases hx
      · rw [e] at hx; simp at hx; omega
    have e3 : ∀ x ∈ q3, w1.heap.size ≤ x ∧ x < w3.heap.size := fun x hx => by
      rcases HQ3.out with e | ⟨q', e, g1, g2⟩
      · rw [e] at hx; cases hx
      · rw [e] at hx; simp at hx; omega
    have e5 : ∀ x ∈ q5, w3.heap.size ≤ x ∧ x < w5.heap.size := fun x hx => by
      rcases hq5 with e | ⟨q', e, g1, g2⟩
      · rw [e] at hx; cases hx
      · rw [e] at hx; simp at hx; omega
    refine OM.start (s0 := W.heap.size) (s1 := w1.heap.size) (s2 := w3.heap.size) (s3 := w5.heap.size) (qc := q1) (qg := q3) (qn := q5) (HCW.out _ H5.out) s0 s1 (by omega) (by omega) s6 ?_ e1 ?_ e3 ?_ e5 rfl rfl rfl
    · show Row _ _ 4 (.slice ac1 v.cells.length cc1) q1 v.cells.length _
      rw [HN.out]
      exact HR1.out.ch J5.out (fun x hx hm => by have := e1 x hx; simp at hm; omega)
    · show Row _ _ 1 (.slice ac3 v.grey.length cc3) q3 v.grey.length _
      rw [HGL.out]
      exact HR3.out.ch K5.out (fun x hx hm => by have := e3 x hx; simp at hm; omega)
    · show Row _ _ 1 (.slice ac5 v.globals.length cc5) q5 v.globals.length _
      rw [HNG.out]
      exact hr5.ch M5.out (fun x hx hm => by have := e5 x hx; simp at hm; omega))
  clear hr5 hq5 b0 c0 b1 b2 b3 k4 hc5' H3 J3 K3 HB5 HR1 HR3 HQ1 HQ3 S1 S3 S5 J5 K5 M5
  go_upto_region 9 with fail
  clear f0 f3 c1 c2
  generalize (w5.setCell ⟨bx, 4, none⟩ (.slice ac5 ng cc5)).setCell ⟨bx, 6, none⟩ (.slice none 0 0) = w6 at *
  go_wp2_with fail
  go_loopw [4] (fun i wr => ∃ (k : Nat) (O : Nat → Nat) (a' : VA), i = .int .i64 k ∧ k ≤ nl ∧ OM w wr O a' (takeV v k) ∧ (∀ x, x < W.heap.size → O x = 0) ∧ wr.heap[bx]? = some (.cells (a'.arr (takeV v k)) 65 (0, 0)) ∧ Ch [bx] W wr) (fun i _ => nl - (intOf i).toNat)
  case atStart =>
    obtain ⟨O, g1, g2⟩ := OS.out
    exact ⟨0, O, _, rfl, by omega, g1, g2, by have := HB7.out; simpa [VA.arr, takeV, HN.out, HGL.out, HNG.out] using this, H5.out⟩
  case round =>
    obtain ⟨k, O, a', rfl, hk, hom, hO, hb, hch⟩ := hrel
    have HOM := Lib.hid hom
    have HOO := Lib.hid hO
    have HBB := Lib.hid hb
    have HCH := Lib.hid hch
    obtain ⟨k0, k3, k4, k6⟩ := KP.out wr hch
    clear OS HB7 H5 k0 k3 k4 hO
    by_cases hlt : k < nl
    · have hkl : k < v.lanes.length := by rw [← HNL.out]; exact hlt
      have ltK : (k : Int) < nl := by omega
      have HCWR := Lib.hid (HCW.out wr hch)
      obtain ⟨b, off, hal, c1, c2, c3⟩ := (HV.out.ch HCWR.out).lane k hkl
      have HTL : Hid ((takeV v k).lanes.length = k) := Lib.hid (takeV_len v k (by omega))
      have HTN := Lib.hid (takeV_next v k hkl)
      rw [hal] at k6
      rw [hal]
      have HLN : Hid (∀ w1 : World, Ch [bx] W w1 → w1.cell? ⟨w.heap.size, 6, none⟩ = some (.slice (some ⟨b, off, none⟩) nl a.cl) ∧ w1.cell? ⟨b, off + k * 3, none⟩ = some (.slice (a.la k) (v.lanes.getD k ln0).roots.length (a.lc k))) := Lib.hid (fun w1 h1 => by
        obtain ⟨b2, off2, hal2, e1, _, _⟩ := (HV.out.ch (HCW.out w1 h1)).lane k hkl
        rw [hal] at hal2
        simp only [Option.some.injEq, Addr.mk.injEq, and_true] at hal2
        obtain ⟨rfl, rfl⟩ := hal2
        exact ⟨by have := (KP.out w1 h1).2.2.2; rwa [hal] at this, e1⟩)
      have HRX := Lib.hid (fun (w1 : World) (h1 : Ch [bx] W w1) => HRR.out w1 (HCW.out w1 h1) k hlt)
      have hrn := HRN.out k hlt
      clear hal hch hom hb hkl
      generalize v.lanes.getD k ln0 = x at *
      obtain ⟨xr, xs, xe⟩ := x
      simp only at c1 c2 c3 hrn HRX HLN HTN
      generalize hxl : xr.length = xl at *
      have HXL := Lib.hid hxl
      clear hxl
      generalize a.la k = xa at *
      generalize a.lc k = xcap at *
      go_upto_region 14 with fail
      obtain ⟨lb, hlb⟩ : ∃ lb, lb = wr.heap.size := ⟨_, rfl⟩
      have hnb := heap_new wr (.cells #[.slice none 0 0, .bool xs, .bool xe] 71)
      have hsz1 : (wr.alloc (.cells #[.slice none 0 0, .bool xs, .bool xe] 71)).heap.size = lb + 1 := by rw [hlb]; exact World.size_alloc _ _
      have C1 : Ch [] wr (wr.alloc (.cells #[.slice none 0 0, .bool xs, .bool xe] 71)) := (Ch.refl _ _).alloc _
      rw [← hlb] at hnb ⊢
      have HLB := Lib.hid hlb
      have HNB := Lib.hid hnb
      have HSZ1 := Lib.hid hsz1
      have HC1 := Lib.hid C1
      clear hlb hnb hsz1 C1 c1 c2 c3 k6
      generalize wr.alloc (.cells #[.slice none 0 0, .bool xs, .bool xe] 71) = w7 at *
      have HKS : Hid (∀ V, Ch [] w7 V → V.cell? ⟨lb, 0, none⟩ = some (.slice none 0 0) ∧ V.cell? ⟨w.heap.size, 6, none⟩ = some (.slice (some ⟨b, off, none⟩) nl a.cl) ∧ V.cell? ⟨b, off + k * 3, none⟩ = some (.slice xa xl xcap)) := Lib.hid (fun V hV => ⟨hV.cell (cell_at (i := 0) HNB.out) (by simp), HLN.out V (HCH.out.trans' ((HC1.out.trans' hV).mono (by simp)))⟩)
      refine Rl.wp_region_last (S := (fun w' => w'.cell? ⟨lb, 0, none⟩ = some (.slice none 0 0) ∧ w'.cell? ⟨w.heap.size, 6, none⟩ = some (.slice (some ⟨b, off, none⟩) nl a.cl) ∧ w'.cell? ⟨b, off + k * 3, none⟩ = some (.slice xa xl xcap))) 10 10 (by kernel_rfl) (by kernel_rfl) (by kernel_rfl) (HKS.out _ (Ch.refl _ _).drew) (fun hHeld => ?_)
      refine wpAnyH_take (i := 0) (v := ?_) (Rl.arr_at Rl.at_0) (by kernel_rfl) (by kernel_rfl) (by kernel_rfl) (fun _ _ _ h => h) (Or.inl ⟨by rfl, ?_⟩) (by assumption) ?_
      rotate_left 1
      · (intro w hSw; (try dsimp only at hSw); go_simp) <;> with_reducible rfl
      (try simp only [Act.put, List.setIfInBounds_toArray, List.set_cons_zero, List.set_cons_succ])
      refine wpAnyH_take (i := 1) (v := ?_) (Rl.arr_at (Rl.at_s Rl.at_0)) (by kernel_rfl) (by kernel_rfl) (by kernel_rfl) (fun _ _ _ h => h) (Or.inl ⟨by rfl, ?_⟩) (by assumption) ?_
      rotate_left 1
      · (intro w hSw; (try dsimp only at hSw); go_simp) <;> with_reducible rfl
      (try simp only [Act.put, List.setIfInBounds_toArray, List.set_cons_zero, List.set_cons_succ])
      refine wpAnyH_take (i := 2) (v := ?_) (Rl.arr_at (Rl.at_s (Rl.at_s Rl.at_0))) (by kernel_rfl) (by kernel_rfl) (by kernel_rfl) (fun _ _ _ h => h) (Or.inl ⟨by rfl, ?_⟩) (by assumption) ?_
      rotate_left 1
      · (intro w hSw; (try dsimp only at hSw); go_simp) <;> with_reducible rfl
      (try simp only [Act.put, List.setIfInBounds_toArray, List.set_cons_zero, List.set_cons_succ])
      refine wpAnyH_take (i := 3) (v := ?_) (Rl.arr_at (Rl.at_s (Rl.at_s (Rl.at_s Rl.at_0)))) (by kernel_rfl) (by kernel_rfl) (by kernel_rfl) (fun _ _ _ h => h) (Or.inl ⟨by rfl, ?_⟩) (by assumption) ?_
      rotate_left 1
      · (intro w hSw; (try dsimp only at hSw); go_simp) <;> with_reducible rfl
      (try simp only [Act.put, List.setIfInBounds_toArray, List.set_cons_zero, List.set_cons_succ])
      refine wpAnyH_take (i := 4) (v := ?_) (Rl.arr_at (Rl.at_s (Rl.at_s (Rl.at_s (Rl.at_s Rl.at_0))))) (by kernel_rfl) (by kernel_rfl) (by kernel_rfl) (fun _ _ _ h => h) (Or.inl ⟨by rfl, ?_⟩) (by assumption) ?_
      rotate_left 1
      · (intro w hSw; (try dsimp only at hSw); go_simp) <;> with_reducible rfl
      (try simp only [Act.put, List.setIfInBounds_toArray, List.set_cons_zero, List.set_cons_succ])
      refine wpAnyH_take (i := 5) (v := ?_) (Rl.arr_at (Rl.at_s (Rl.at_s (Rl.at_s (Rl.at_s (Rl.at_s Rl.at_0)))))) (by kernel_rfl) (by kernel_rfl) (by kernel_rfl) (fun _ _ _ h => h) (Or.inl ⟨by rfl, ?_⟩) (by assumption) ?_
      rotate_left 1
      · (intro w hSw; (try dsimp only at hSw); go_simp) <;> with_reducible rfl
      (try simp only [Act.put, List.setIfInBounds_toArray, List.set_cons_zero, List.set_cons_succ])
      refine wpAnyH_take (i := 6) (v := ?_) (Rl.arr_at (Rl.at_s (Rl.at_s (Rl.at_s (Rl.at_s (Rl.at_s (Rl.at_s Rl.at_0))))))) (by kernel_rfl) (by kernel_rfl) (by kernel_rfl) (fun _ _ _ h => h) (Or.inl ⟨by rfl, ?_⟩) (by assumption) ?_
      rotate_left 1
      · (intro w hSw; (try dsimp only at hSw); go_simp) <;> with_reducible rfl
      (try simp only [Act.put, List.setIfInBounds_toArray, List.set_cons_zero, List.set_cons_succ])
      refine wpAnyH_take (i := 7) (v := ?_) (Rl.arr_at (Rl.at_s (Rl.at_s (Rl.at_s (Rl.at_s (Rl.at_s (Rl.at_s (Rl.at_s Rl.at_0)))))))) (by kernel_rfl) (by kernel_rfl) (by kernel_rfl) (fun _ _ _ h => h) (Or.inl ⟨by rfl, ?_⟩) (by assumption) ?_
      rotate_left 1
      · (intro w hSw; (try dsimp only at hSw); go_simp) <;> with_reducible rfl
      (try simp only [Act.put, List.setIfInBounds_toArray, List.set_cons_zero, List.set_cons_succ])
      refine wpAnyH_ready (rs := [8]) (by kernel_rfl) (by simp) ?_
      refine AllReadyH.cons (Rl.arr_at (Rl.at_s (Rl.at_s (Rl.at_s (Rl.at_s (Rl.at_s (Rl.at_s (Rl.at_s (Rl.at_s Rl.at_0))))))))) (fun K hK => ?_) AllReadyH.nil
      refine step_append_copy (by rfl) _ _ 62 (by rfl) 24 iw _ 1 8 Tryd.underlying62 hiw hw0 hw1 hw2 rfl (by decide) (by rfl) xa xl xcap (by rfl) (ints .u64 xr) (by have := HRX.out _ (HCH.out.trans' ((HC1.out.trans' (Ch.refl _ _).drew).mono (by simp))); rwa [Nat.mul_one]) (ints_oneO .u64 xr) (by unfold maxLen; omega) (by omega) ?_
      intro v' w11 qs' hr4 hc4 hq4
      obtain ⟨ao4, cap4, rfl, _⟩ := hr4.rd
      have HKA := Lib.hid (HKS.out w11 ((Ch.refl _ _).drew.trans' hc4))
      have HR4 := Lib.hid hr4
      have HC4 := Lib.hid ((Ch.refl [] w7).drew.trans' hc4)
      have HQ4 : Hid (∀ x ∈ qs', w7.heap.size ≤ x ∧ x < w11.heap.size) := Lib.hid (fun x hx => by rcases hq4 with e | ⟨q', e, h1, h2⟩; · rw [e] at hx; cases hx
                                                                                                  · rw [e] at hx; simp at hx; subst hx; exact ⟨h1, h2⟩)
      clear hr4 hc4 hq4
      refine hK.out _ _ HKA.out (fun hHeld => ?_)
      clear hK K
      (try simp only [Act.put, List.setIfInBounds_toArray, List.set_cons_zero, List.set_cons_succ])
      refine wpAnyH_ready (rs := [9]) (by kernel_rfl) (by simp) ?_
      refine AllReadyH.cons (Rl.arr_at (Rl.at_s (Rl.at_s (Rl.at_s (Rl.at_s (Rl.at_s (Rl.at_s (Rl.at_s (Rl.at_s (Rl.at_s Rl.at_0)))))))))) (fun K hK => ?_) AllReadyH.nil
      go_simp
      refine hK.out _ _ HKA.out (fun hHeld => ?_)
      clear hK K
      (try simp only [Act.put, List.setIfInBounds_toArray, List.set_cons_zero, List.set_cons_succ])
      refine wpAnyH_done (by kernel_rfl) ?_ _
      refine Rl.last_list (Rl.arr_at (Rl.at_s (Rl.at_s (Rl.at_s (Rl.at_s (Rl.at_s (Rl.at_s (Rl.at_s (Rl.at_s (Rl.at_s (Rl.at_s Rl.at_0))))))))))) ?_
      have pb := HC4.out.heap HNB.out (by simp)
      have z0 := cell_at (i := 0) pb
      have f0 := free_at (i := 0) pb
      have pb2 := heap_set (i := 0) pb (.slice ao4 xl cap4)
      simp only [List.setIfInBounds_toArray, List.set_cons_zero, List.set_cons_succ] at pb2
      simp only [List.getElem?_toArray, List.getElem?_cons_zero, List.getElem?_cons_succ] at z0
      have HPB2 := Lib.hid pb2
      have hlt11 : lb < w11.heap.size := lt_of pb
      have HL11 := Lib.hid hlt11
      have HC5 : Hid (Ch [lb] w7 (w11.setCell ⟨lb, 0, none⟩ (.slice ao4 xl cap4))) := Lib.hid ((HC4.out.mono (by simp)).setCell _ _ (.inl (by simp)))
      have HR5 : Hid (Row (w11.setCell ⟨lb, 0, none⟩ (.slice ao4 xl cap4)) 24 1 (.slice ao4 xl cap4) qs' xl (ints .u64 xr)) := Lib.hid (HR4.out.ch ((Ch.refl [lb] w11).setCell _ _ (.inl (by simp))) (fun x hx hm => by have h1 := (HQ4.out x hx).1; have h2 := HSZ1.out; simp at hm; omega))
      clear pb pb2 hHeld hlt11
      go_upto_region 15 with fail
      clear z0 f0
      have hs12 : (w11.setCell ⟨lb, 0, none⟩ (.slice ao4 xl cap4)).heap.size = w11.heap.size := by simp [World.setCell]
      have HQ5 : Hid (∀ x ∈ qs', w7.heap.size ≤ x ∧ x < (w11.setCell ⟨lb, 0, none⟩ (.slice ao4 xl cap4)).heap.size) := Lib.hid (fun x hx => by rw [hs12]; exact HQ4.out x hx)
      clear hs12 HKA HR4 HC4 HQ4 HKS
      generalize w11.setCell ⟨lb, 0, none⟩ (.slice ao4 xl cap4) = w12 at *
      have HCW12 : Hid (Ch [] wr w12) := Lib.hid (HC1.out.trans HC5.out (fun x hx => by simp at hx; subst hx; have := HLB.out; exact .inr (by omega)))
      have pb := HPB2.out
      have e0 := cell_at (i := 0) pb
      have e1 := cell_at (i := 1) pb
      have e2 := cell_at (i := 2) pb
      have hbb := HCW12.out.heap HBB.out (by simp)
      have b6 := cell_at (i := 6) hbb
      unfold VA.arr at b6
      simp only [List.getElem?_toArray, List.getElem?_cons_zero, List.getElem?_cons_succ, HTL.out] at e0 e1 e2 b6
      have CX : Ch [] w12 (w12.alloc (.cells #[.slice ao4 xl cap4, .bool xs, .bool xe] 71)) := (Ch.refl _ _).alloc _
      have HCX := Lib.hid CX
      obtain ⟨qs, hrow, hqs⟩ := (HOM.out.keep HCW12.out (by simp)).ln
      rw [HTL.out] at hrow
      have HRL5 := Lib.hid (hrow.ch CX (by simp))
      have HQS : Hid (∀ y ∈ qs, O y = 5) := Lib.hid hqs
      have HN2 := Lib.hid (newL (w := w12) (b := w12.heap.size) rfl [.slice ao4 xl cap4, .bool xs, .bool xe] 71)
      clear pb hbb CX hrow hqs
      go_wp2_with (at_builtin; go_loud (refine wpList_append_row _ rfl _ _ 63 rfl 71 il _ 3 32 Tryd.underlying63 hil hl0 hl1 hl2 rfl (by decide) rfl HRL5.out ⟨w12.heap.size, 0, none⟩ 1 1 [.slice ao4 xl cap4, .bool xs, .bool xe] rfl rfl HN2.out (by intro u hu; simp at hu; rcases hu with rfl | rfl | rfl <;> rfl) (by unfold maxLen; omega) (by omega) ?_))
      intro v' w13 oq' hr6 hc6 hq6
      obtain ⟨ao6, cap6, rfl, _⟩ := hr6.rd
      have hw5 : Ch [] wr (w12.alloc (.cells #[.slice ao4 xl cap4, .bool xs, .bool xe] 71)) := HCW12.out.trans' HCX.out
      have hb13 := hc6.heap (hw5.heap HBB.out (by simp)) (fun hm => by have h1 := HQS.out _ hm; have h2 := HOO.out bx (by have := HBW.out; exact this); omega)
      have c6 := cell_at (i := 6) hb13
      have f6 := free_at (i := 6) hb13
      unfold VA.arr at c6
      simp only [List.getElem?_toArray, List.getElem?_cons_zero, List.getElem?_cons_succ] at c6
      have HB14 := Lib.hid (heap_set (i := 6) hb13 (.slice ao6 (k + 1) cap6))
      have HLA : Hid (∃ O' a6, OM w (w13.setCell ⟨bx, 6, none⟩ (.slice ao6 (k + 1) cap6)) O' a6 (takeV v (k + 1)) ∧ a6.arr (takeV v (k + 1)) = (a'.arr (takeV v k)).set! 6 (.slice ao6 (k + 1) cap6) ∧ ∀ x, x < W.heap.size → O' x = 0) := Lib.hid (by
        have hsz12 : (w12.alloc (.cells #[.slice ao4 xl cap4, .bool xs, .bool xe] 71)).heap.size = w12.heap.size + 1 := World.size_alloc _ _
        have hrr : Row (w12.alloc (.cells #[.slice ao4 xl cap4, .bool xs, .bool xe] 71)) 24 1 (.slice ao4 xr.length cap4) qs' xr.length (ints .u64 xr) := by rw [HXL.out]; exact HR5.out.ch HCX.out (by simp)
        have hw7 : wr.heap.size ≤ w7.heap.size := HC1.out.size
        have := OM.laneAdd HOM.out (l := ⟨xr, xs, xe⟩) (ao := ao6) (cap := cap6) (q := oq') (T0 := []) hw5 (by simp) hrr (fun x hx => by have h1 := HQ5.out x hx; omega) (by rw [HTL.out]; simp only [HXL.out]; exact hr6) hc6 HQS.out (fun x hx => by
          rcases hq6 with e | ⟨q', e, h1, h2⟩
          · rw [e] at hx; exact .inl (HQS.out x hx)
          · rw [e] at hx; simp at hx; subst hx; exact .inr ⟨by omega, h2⟩)
        rw [HTL.out, HTN.out] at this
        obtain ⟨O', a6, g1, g2, g3⟩ := this
        have hbo := HOO.out bx HBW.out
        have hWr := HCH.out.size
        have hbo' := g3 bx (by have := HBW.out; omega) hbo
        have hbw : w.heap.size ≤ bx := by have := HBX.out; omega
        exact ⟨O', a6, g1.keep ((Ch.refl [bx] w13).setCell _ _ (.inl (by simp))) (fun x hx => by simp at hx; subst hx; exact ⟨hbo', hbw⟩), g2, fun x hx => g3 x (by omega) (HOO.out x hx)⟩)
      have HCF : Hid (Ch [bx] W (w13.setCell ⟨bx, 6, none⟩ (.slice ao6 (k + 1) cap6))) := Lib.hid (by
        refine ((HCH.out.trans' (hw5.mono (by simp))).trans (hc6.mono (T := bx :: qs) (by simp +contextual)) (fun x hx => ?_)).setCell _ _ (.inl (by simp))
        rcases List.mem_cons.1 hx with e | e
        · left; simp [e]
        · right
          have h1 := HQS.out x e
          rcases Nat.lt_or_ge x W.heap.size with h2 | h2
          · have := HOO.out x h2; omega
          · exact h2)
      clear hr6 hc6 hq6 hb13 hw5 e0 e1 e2 b6
      go_wp2_with fail
      go_roundw
      case rel =>
        obtain ⟨O', a6, g1, g2, g3⟩ := HLA.out
        exact ⟨k + 1, O', a6, by go_num, by omega, g1, g3, by rw [g2]; exact HB14.out, HCF.out⟩
      case measure => simp [intOf]; omega
    · obtain rfl : nl = k := by omega
      have hTA : takeV v nl = v := by rw [HNL.out]; exact takeV_all v
      have hrbx : w.heap.size + 1 ≠ bx := by have := HBX.out; omega
      have hrb := HCH.out.heap HRB.out (by simp; omega)
      have hbb := HBB.out
      rw [hTA] at hbb
      unfold VA.arr at hbb
      have hvl : v.lanes.length = nl := HNL.out.symm
      rw [hvl] at hbb
      have y0 := cell_at (i := 0) hbb
      have y1 := cell_at (i := 1) hbb
      have y2 := cell_at (i := 2) hbb
      have y3 := cell_at (i := 3) hbb
      have y4 := cell_at (i := 4) hbb
      have y5 := cell_at (i := 5) hbb
      have y6 := cell_at (i := 6) hbb
      have r0 := cell_at (i := 0) hrb
      have r1 := cell_at (i := 1) hrb
      have r2 := cell_at (i := 2) hrb
      have r3 := cell_at (i := 3) hrb
      have r4 := cell_at (i := 4) hrb
      have r5 := cell_at (i := 5) hrb
      have r6 := cell_at (i := 6) hrb
      have HRBB := Lib.hid hrb
      simp only [List.getElem?_toArray, List.getElem?_cons_zero, List.getElem?_cons_succ] at y0 y1 y2 y3 y4 y5 y6 r0 r1 r2 r3 r4 r5 r6
      have f0 := free_at (i := 0) hrb
      have f1 := free_at (i := 1) hrb
      have f2 := free_at (i := 2) hrb
      have f3 := free_at (i := 3) hrb
      have f4 := free_at (i := 4) hrb
      have f5 := free_at (i := 5) hrb
      have f6 := free_at (i := 6) hrb
      obtain ⟨A0, hA0⟩ : ∃ x, x = Value.slice a'.ac v.cells.length a'.cc := ⟨_, rfl⟩
      obtain ⟨A3, hA3⟩ : ∃ x, x = Value.slice a'.ag v.grey.length a'.cg := ⟨_, rfl⟩
      obtain ⟨A4, hA4⟩ : ∃ x, x = Value.slice a'.agl v.globals.length a'.cgl := ⟨_, rfl⟩
      obtain ⟨A6, hA6⟩ : ∃ x, x = Value.slice a'.al nl a'.cl := ⟨_, rfl⟩
      have HAA : Hid (a'.arr v = #[.slice a'.ac v.cells.length a'.cc, .int .u8 v.ph, .int .i64 v.sw, .slice a'.ag v.grey.length a'.cg, .slice a'.agl v.globals.length a'.cgl, .int .i64 v.laid, .slice a'.al nl a'.cl]) := Lib.hid (by unfold VA.arr; rw [hvl])
      have HO2 : Hid (OM w wr O a' v) := Lib.hid (by have := HOM.out; rwa [hTA] at this)
      have b7 := heap_set (i := 6) (heap_set (i := 5) (heap_set (i := 4) (heap_set (i := 3) (heap_set (i := 2) (heap_set (i := 1) (heap_set (i := 0) HRBB.out (.slice a'.ac v.cells.length a'.cc)) (.int .u8 v.ph)) (.int .i64 v.sw)) (.slice a'.ag v.grey.length a'.cg)) (.slice a'.agl v.globals.length a'.cgl)) (.int .i64 v.laid)) (.slice a'.al nl a'.cl)
      simp only [List.setIfInBounds_toArray, List.set_cons_zero, List.set_cons_succ] at b7
      have HB7 := Lib.hid b7
      have HCF : Hid (Ch [w.heap.size + 1] wr (((((((wr.setCell ⟨w.heap.size + 1, 0, none⟩ (.slice a'.ac v.cells.length a'.cc)).setCell ⟨w.heap.size + 1, 1, none⟩ (.int .u8 v.ph)).setCell ⟨w.heap.size + 1, 2, none⟩ (.int .i64 v.sw)).setCell ⟨w.heap.size + 1, 3, none⟩ (.slice a'.ag v.grey.length a'.cg)).setCell ⟨w.heap.size + 1, 4, none⟩ (.slice a'.agl v.globals.length a'.cgl)).setCell ⟨w.heap.size + 1, 5, none⟩ (.int .i64 v.laid)).setCell ⟨w.heap.size + 1, 6, none⟩ (.slice a'.al nl a'.cl))) := Lib.hid (((((((((Ch.refl _ _).setCell _ _ (.inl (by simp))).setCell _ _ (.inl (by simp))).setCell _ _ (.inl (by simp))).setCell _ _ (.inl (by simp))).setCell _ _ (.inl (by simp))).setCell _ _ (.inl (by simp))).setCell _ _ (.inl (by simp))))
      have HOR : Hid (O (w.heap.size + 1) = 0) := Lib.hid (HOO.out _ (by have := HSZ.out; omega))
      clear hb hom hch hbb hrb b7 hA0 hA3 hA4 hA6 hTA hvl hrbx
      go_wp2_with fail
      clear y0 y1 y2 y3 y4 y5 y6 r0 r1 r2 r3 r4 r5 r6 f0 f1 f2 f3 f4 f5 f6
      generalize ((((((wr.setCell ⟨w.heap.size + 1, 0, none⟩ (.slice a'.ac v.cells.length a'.cc)).setCell ⟨w.heap.size + 1, 1, none⟩ (.int .u8 v.ph)).setCell ⟨w.heap.size + 1, 2, none⟩ (.int .i64 v.sw)).setCell ⟨w.heap.size + 1, 3, none⟩ (.slice a'.ag v.grey.length a'.cg)).setCell ⟨w.heap.size + 1, 4, none⟩ (.slice a'.agl v.globals.length a'.cgl)).setCell ⟨w.heap.size + 1, 5, none⟩ (.int .i64 v.laid)).setCell ⟨w.heap.size + 1, 6, none⟩ (.slice a'.al nl a'.cl) = wf at *
      have z0 := cell_at (i := 0) HB7.out
      have z1 := cell_at (i := 1) HB7.out
      have z2 := cell_at (i := 2) HB7.out
      have z3 := cell_at (i := 3) HB7.out
      have z4 := cell_at (i := 4) HB7.out
      have z5 := cell_at (i := 5) HB7.out
      have z6 := cell_at (i := 6) HB7.out
      simp only [List.getElem?_toArray, List.getElem?_cons_zero, List.getElem?_cons_succ] at z0 z1 z2 z3 z4 z5 z6
      refine bodyPost_ret (v := .agg #[.slice a'.ac v.cells.length a'.cc, .int .u8 v.ph, .int .i64 v.sw, .slice a'.ag v.grey.length a'.cg, .slice a'.agl v.globals.length a'.cgl, .int .i64 v.laid, .slice a'.al nl a'.cl]) (by simp [results, Tryd.f30, go_sem, z0, z1, z2, z3, z4, z5, z6]) rfl ?_
      exact ⟨O, a', by rw [HN.out, HGL.out, HNG.out], HO2.out.keep HCF.out (fun x hx => by simp at hx; subst hx; exact ⟨HOR.out, by omega⟩)⟩
end Go.Proofs.YtlhhcocdhkbdnaaDoor.Kp
