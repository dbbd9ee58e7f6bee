/-
  THE WALK of barrier.sources, for each function that it is handed. (Written by wip/gen_srcb.py.)
-/
import Derived.Test.YtlhhcocdhkbdnaaDoorQWalkB
import Derived.Test.YtlhhcocdhkbdnaaDoorQView3
set_option linter.unusedVariables false
set_option linter.unusedSimpArgs false
set_option maxRecDepth 100000
namespace Go.Proofs.YtlhhcocdhkbdnaaDoor.Bp
open Go.RowKit Go.Proofs.YtlhhcocdhkbdnaaDoor.Wd Go.Proofs.YtlhhcocdhkbdnaaDoor.Hp Go.Proofs.YtlhhcocdhkbdnaaDoor.Gp Go.Proofs.YtlhhcocdhkbdnaaDoor.Sm Go.Proofs.YtlhhcocdhkbdnaaDoor.Gr
def cw (h : List Cel) (c : Int) : List Int := [(h.getD c.toNat z).a, (h.getD c.toNat z).b]
def src1 (v : Vw) (j : Nat) : List Int := v.globals.drop v.laid.toNat ++ (v.grey.take j).flatMap (cw v.cells)
def lr (cnt : Ln → Bool) (l : Ln) : List Int := if !l.sc && cnt l then l.roots else []
def src2 (v : Vw) (cnt : Ln → Bool) (j : Nat) : List Int := src1 v v.grey.length ++ (v.lanes.take j).flatMap (lr cnt)
def srcL (v : Vw) (cnt : Ln → Bool) : List Int := src2 v cnt v.lanes.length
theorem src1_next (v : Vw) (j : Nat) (hj : j < v.grey.length) : src1 v (j + 1) = src1 v j ++ cw v.cells (v.grey.getD j 0) := by
  unfold src1; rw [take_snoc v.grey j 0 hj]; simp
theorem src2_next (v : Vw) (cnt : Ln → Bool) (j : Nat) (hj : j < v.lanes.length) : src2 v cnt (j + 1) = src2 v cnt j ++ lr cnt (v.lanes.getD j ln0) := by
  unfold src2; rw [take_snoc v.lanes j ln0 hj]; simp
theorem src1_len (v : Vw) (j : Nat) : (src1 v j).length ≤ v.globals.length + 2 * v.grey.length := by
  unfold src1
  rw [List.length_append, List.length_drop, List.length_flatMap]
  have : ∀ l : List Int, (l.map (fun a => (cw v.cells a).length)).sum = 2 * l.length := fun l => by
    induction l with
    | nil => rfl
    | cons x l ih => rw [List.map_cons, List.sum_cons, ih]; simp only [cw, List.length_cons, List.length_nil]; omega
  have h2 : (v.grey.take j).length ≤ v.grey.length := by rw [List.length_take]; omega
  rw [this]
  omega
theorem lanes_len (cnt : Ln → Bool) : ∀ l : List Ln, (l.flatMap (lr cnt)).length ≤ rootsN l
  | [] => by simp
  | x :: l => by
    have := lanes_len cnt l
    rw [List.flatMap_cons, List.length_append]
    simp only [rootsN, List.map_cons, List.sum_cons]
    unfold rootsN at this
    have h2 : (lr cnt x).length ≤ x.roots.length := by unfold lr; split <;> simp
    omega
theorem rootsN_take (l : List Ln) (j : Nat) : rootsN (l.take j) ≤ rootsN l := by
  have : rootsN l = rootsN (l.take j) + rootsN (l.drop j) := by
    conv => lhs; rw [← List.take_append_drop j l]
    simp only [rootsN, List.map_append, List.sum_append]
  omega
theorem src2_len (v : Vw) (cnt : Ln → Bool) (j : Nat) : (src2 v cnt j).length ≤ v.globals.length + 2 * v.grey.length + rootsN v.lanes := by
  unfold src2
  rw [List.length_append]
  have h1 := src1_len v v.grey.length
  have h2 := lanes_len cnt (v.lanes.take j)
  have h3 := rootsN_take v.lanes j
  omega
/-- What a view that may be is known for. -/
structure VOk (v : Vw) : Prop where
  ph : v.ph ≤ 3
  laid : 0 ≤ v.laid ∧ v.laid ≤ v.globals.length
  globals : ∀ x ∈ v.globals, isWord x v.cells.length = true
  cells : ∀ x ∈ v.cells, cellOk v.cells.length x = true
  grey : ∀ c ∈ v.grey, greyC v.cells c = true
  nd : v.grey.Nodup
  n : greyN v.cells = v.grey.length
  roots : ∀ l ∈ v.lanes, ∀ x ∈ l.roots, isWord x v.cells.length = true
theorem mayV_ok {v : Vw} (h : mayV v = true) : VOk v := by
  unfold mayV numsOk rightW greyOk at h
  simp only [Bool.and_eq_true, Bool.not_eq_true', decide_eq_false_iff_not, decide_eq_true_eq, List.all_eq_true] at h
  obtain ⟨⟨a1, a2, a3, a4, a5⟩, b, c, ⟨d1, d2⟩, e, f⟩ := h
  exact ⟨by omega, ⟨by omega, by omega⟩, b, c, d1, (nodupB_iff _).1 d2, e, f⟩
theorem VOk.greyAt {v : Vw} (h : VOk v) (j : Nat) (hj : j < v.grey.length) : 0 ≤ v.grey.getD j 0 ∧ (v.grey.getD j 0).toNat < v.cells.length := by
  have := h.grey (v.grey.getD j 0) (by rw [show v.grey.getD j 0 = v.grey[j] by simp [List.getD, hj]]; exact List.getElem_mem hj)
  unfold greyC at this
  simp only [Bool.and_eq_true, decide_eq_true_eq] at this
  omega
set_option maxHeartbeats 4000000 in
theorem srcA_any (w : World) (a : VA) (v : Vw) (hv : VM w a v) (hr : VR v) (hk : VOk v) :
    Calls Tryd.prog 91 #[.agg (a.arr v), .func (.func 92) #[] #[]] w (Mk1 24 (ints .u64 (srcL v (fun _ => true))) (srcL v (fun _ => true)).length w) := by
  obtain ⟨W, hW⟩ : ∃ W, W = w.alloc (.cells (a.arr v) 65) := ⟨_, rfl⟩
  have C0 : Ch [] w W := by rw [hW]; exact (Ch.refl _ _).alloc _
  have hbx : W.heap[w.heap.size]? = some (.cells (a.arr v) 65 (0, 0)) := by rw [hW]; exact heap_new w _
  obtain ⟨i0, hi, he⟩ := Option.map_eq_some_iff.1 infoWord
  simp only [Prod.mk.injEq] at he
  obtain ⟨hz0, hz1, hz2⟩ := he
  have HBX := Lib.hid hbx
  have KX : Hid (∀ w1 : World, Ch [] W w1 → w1.cell? ⟨w.heap.size, 0, none⟩ = some (.slice a.ac v.cells.length a.cc) ∧ w1.cell? ⟨w.heap.size, 3, none⟩ = some (.slice a.ag v.grey.length a.cg) ∧ w1.cell? ⟨w.heap.size, 4, none⟩ = some (.slice a.agl v.globals.length a.cgl) ∧ w1.cell? ⟨w.heap.size, 5, none⟩ = some (.int .i64 v.laid) ∧ w1.cell? ⟨w.heap.size, 6, none⟩ = some (.slice a.al v.lanes.length a.cl)) := Lib.hid (fun w1 h1 => by
    have hh := h1.heap HBX.out (by simp)
    unfold VA.arr at hh
    exact ⟨cell_at hh, cell_at hh, cell_at hh, cell_at hh, cell_at hh⟩)
  obtain ⟨k0, k3, k4, k5, k6⟩ := KX.out W (Ch.refl _ _)
  have HC0 := Lib.hid C0
  have HV := Lib.hid hv
  have HR := Lib.hid hr
  have HOK := Lib.hid hk
  have HSZ0 : Hid (W.heap.size = w.heap.size + 1) := Lib.hid (by rw [hW, World.size_alloc])
  have n1 := hr.n1
  have n2 := hr.n2
  have n3 := hr.n3
  have n4 := hr.n4
  have n5 := hr.n5
  have hgl := hv.globals.ch C0 (T' := []) (by simp)
  obtain ⟨hl0, hl1⟩ := hk.laid
  have hcap := hv.capg
  have et : Tryd.prog.elem 62 = 24 := by kernel_rfl
  have hS1 : ∀ j, (src1 v j).length ≤ 300000 := fun j => by have := src1_len v j; omega
  have hS2 : ∀ j, (src2 v (fun _ => true) j).length ≤ 500000 := fun j => by have := src2_len v (fun _ => true) j; omega
  have HS1 := Lib.hid hS1
  have HS2 := Lib.hid hS2
  have HE0 : Hid (src1 v 0 = v.globals.drop v.laid.toNat) := Lib.hid (by simp [src1])
  have HE1 : Hid (src2 v (fun _ => true) 0 = src1 v v.grey.length) := Lib.hid (by simp [src2])
  have HE2 : Hid (src2 v (fun _ => true) v.lanes.length = srcL v (fun _ => true)) := Lib.hid rfl
  obtain ⟨ld, hld⟩ : ∃ ld : Nat, v.laid = ld := ⟨v.laid.toNat, by omega⟩
  unfold VA.arr at hW ⊢
  obtain ⟨R, hR⟩ : ∃ R, R = Mk1 24 (ints .u64 (srcL v (fun _ => true))) (srcL v (fun _ => true)).length w := ⟨_, rfl⟩
  have HRR := Lib.hid hR
  rw [← hR]
  rw [hld] at HE0 hl0 hl1 hW k5 ⊢
  rw [Int.toNat_natCast] at HE0
  obtain ⟨so, sc, hsl1, hsl2, hsl3⟩ := slice_from (P := Tryd.prog) 62 24 (by rw [et]; exact Tryd.underlying62) et i0 hi hz1 a.agl v.globals.length a.cgl ld (by omega) hcap
  have CL := Clone_any W so (v.globals.length - ld) sc (v.globals.drop ld) (by omega) (hsl3 W .u64 _ hgl)
  unfold Mk2 at CL
  rw [← HE0.out] at CL
  have HX0 : Hid ((src1 v 0).length = v.globals.length - ld) := Lib.hid (by rw [HE0.out]; simp)
  clear hv hr hk hbx C0 hR hS1 hS2 hgl hsl3 et
  generalize hng : v.globals.length = ng at *
  generalize hgln : v.grey.length = gl at *
  generalize hnl : v.lanes.length = nl at *
  generalize hcl : v.cells.length = n at *
  have HNG := Lib.hid hng
  have HGL := Lib.hid hgln
  have HNL := Lib.hid hnl
  have HCL := Lib.hid hcl
  clear hng hgln hnl hcl
  go_enter Tryd.func91, Tryd.ntmps91
  go_wp2_with fail
  rw [← hW]
  clear hsl1 hsl2 hW
  refine CL.mono ?_
  rintro e w2 ⟨lv, lq, rfl, g1, g2, g3⟩
  rw [← HX0.out] at g1
  have G1 := Lib.hid g1
  have G2 := Lib.hid g2
  have G3 := Lib.hid g3
  obtain ⟨a1, c1, rfl, _⟩ := g1.rd
  rw [HX0.out] at G1 ⊢
  clear CL g1 k0 k3 k4 k5 k6
  obtain ⟨k0, k3, k4, k5, k6⟩ := KX.out w2 g2
  clear g2 g3
  go_wp2_with fail
  clear k0 k3 k4 k5 k6
  go_loopw [19, 5] (fun i lv wr => ∃ (j : Nat) (lq : List Nat), i = .int .i64 j ∧ j ≤ gl ∧ Row wr 24 1 lv lq (src1 v j).length (ints .u64 (src1 v j)) ∧ Ch [] W wr ∧ ∀ q ∈ lq, W.heap.size ≤ q) (fun i _ _ => gl - (intOf i).toNat)
  case atStart => exact ⟨0, lq, rfl, by omega, by rw [HX0.out]; exact G1.out, G2.out, fun q hq => (G3.out q hq).1⟩
  case round =>
    obtain ⟨j, lq, rfl, hj, hrow, hc, hq⟩ := hrel
    clear G1 G2 G3
    obtain ⟨al, cl, rfl, l1, l2, _⟩ := hrow.rd
    obtain ⟨k0, k3, k4, k5, k6⟩ := KX.out wr hc
    have HROW := Lib.hid hrow
    have HC := Lib.hid hc
    have HQ := Lib.hid hq
    clear hrow
    by_cases hlt : j < gl
    · have hjl : j < v.grey.length := by rw [HGL.out]; exact hlt
      have ltJ : (j : Int) < gl := by omega
      obtain ⟨b, off, hag, _, hcg⟩ := HV.out.grey.2.resolve_left (by omega)
      have a1 := (HC0.out.trans' hc).cell ((hcg j (by omega)).trans (ints_get hjl)) (by simp)
      obtain ⟨hg0, hg1⟩ := HOK.out.greyAt j hjl
      have HNX := Lib.hid (src1_next v j hjl)
      generalize v.grey.getD j 0 = g at *
      obtain ⟨c, rfl⟩ : ∃ c : Nat, g = c := ⟨g.toNat, by omega⟩
      unfold cw at HNX
      rw [Int.toNat_natCast] at hg1 HNX
      obtain ⟨bh, offh, hab, _, hjh⟩ := HV.out.cells.2.resolve_left (by omega)
      have HA : Hid (∀ W', Ch [] w W' → ∀ t, t < 4 → W'.cell? ⟨bh, offh + (c * 4 + t), none⟩ = (celV (v.cells.getD c z))[t]?) := Lib.hid (fun W' hcW t ht => by
        have h3 := (hjh (c * 4 + t) (by omega)).trans (flat_get v.cells c t hg1 ht)
        rw [List.getElem?_eq_getElem (by simp [celV]; omega)] at h3 ⊢
        exact hcW.cell h3 (by simp))
      have hcn : c < n := by rw [← HCL.out]; exact hg1
      have ltC : (c : Int) < n := by omega
      generalize v.cells.getD c z = y at *
      obtain ⟨ck, cc, ca, cb⟩ := y
      simp only at HNX
      have HA2 : Hid (∀ W', Ch [] w W' → W'.cell? ⟨bh, offh + c * 4 + 2, none⟩ = some (.int .u64 ca)) := Lib.hid (fun W' hc => HA.out W' hc 2 (by omega))
      have HA3 : Hid (∀ W', Ch [] w W' → W'.cell? ⟨bh, offh + c * 4 + 3, none⟩ = some (.int .u64 cb)) := Lib.hid (fun W' hc => HA.out W' hc 3 (by omega))
      have HKX : Hid (∀ w1 : World, Ch [] W w1 → w1.cell? ⟨w.heap.size, 0, none⟩ = some (.slice (some ⟨bh, offh, none⟩) n a.cc)) := Lib.hid (fun w1 h1 => by rw [← hab]; exact (KX.out w1 h1).1)
      have hle := HS1.out j
      generalize hL : src1 v j = L at *
      have HL := Lib.hid hL
      clear hL
      generalize hnL : L.length = nL at *
      have HNLL := Lib.hid hnL
      clear hnL
      have HCWr : Hid (Ch [] w wr) := Lib.hid (HC0.out.trans' hc)
      have HR1 := Lib.hid (HROW.out.ch ((Ch.refl [] wr).drew.alloc (.cells #[.int .u64 ca, .int .u64 cb] 24)) (by simp))
      have HN2 := Lib.hid (newL (w := wr.drew) (b := wr.heap.size) rfl [.int .u64 ca, .int .u64 cb] 24)
      have FIN : Hid (∀ (w6 : World) (v' : Value) (lq' : List Nat), Row w6 24 1 v' lq' (nL + 2) (ints .u64 L ++ [.int .u64 ca, .int .u64 cb]) → Ch lq (wr.drew.alloc (.cells #[.int .u64 ca, .int .u64 cb] 24)) w6 → (lq' = lq ∨ ∃ q', lq' = [q'] ∧ (wr.drew.alloc (.cells #[.int .u64 ca, .int .u64 cb] 24)).heap.size ≤ q' ∧ q' < w6.heap.size) →
          (Row w6 24 1 v' lq' (src1 v (j + 1)).length (ints .u64 (src1 v (j + 1))) ∧ ∀ q ∈ lq', W.heap.size ≤ q) ∧ Ch [] w w6 ∧ Ch [] W w6) := Lib.hid (fun w6 v' lq' hr4 hc4 hq4 => by
        have hWw : Ch [] W w6 := ((HC.out.drew).alloc _).trans hc4 (fun q hq => .inr (HQ.out q hq))
        refine ⟨⟨?_, fun q hqq => ?_⟩, HC0.out.trans' hWw, hWw⟩
        · rw [HNX.out, List.length_append, HNLL.out, show ints .u64 (L ++ [ca, cb]) = ints .u64 L ++ [.int .u64 ca, .int .u64 cb] by simp [ints]]
          exact hr4
        · rcases hq4 with rfl | ⟨q', rfl, h1, h2⟩
          · exact HQ.out q hqq
          · simp at hqq; subst hqq
            have h3 : (wr.drew.alloc (.cells #[.int .u64 ca, .int .u64 cb] 24)).heap.size = wr.heap.size + 1 := by rw [World.size_alloc]; rfl
            have := HC.out.size
            omega)
      rw [hag]
      rw [hab] at k0
      clear hag hab hjh hcg HA hc hq HNX HL HNLL HROW HX0 HE0 HE1 HE2 HSZ0 hcn hg0 hg1 hjl
      go_wp2_with fail
      go_region_held3 (fun w' => (w'.cell? ⟨bh, offh + c * 4 + 2, none⟩ = some (.int .u64 ca) ∧ w'.cell? ⟨bh, offh + c * 4 + 3, none⟩ = some (.int .u64 cb)) ∧ w'.cell? ⟨w.heap.size, 0, none⟩ = some (.slice (some ⟨bh, offh, none⟩) n a.cc)) (refine ⟨⟨HA2.out _ ?_, HA3.out _ ?_⟩, HKX.out _ ?_⟩ <;> repeat (first | exact HCWr.out | exact HC.out | exact HCW6.out | exact HCW7.out | apply Ch.drew | apply Ch.alloc))
        (first | (refine step_append_row (by rfl) _ _ 62 (by rfl) 24 i0 (.int .u64 0) 1 8 Tryd.underlying62 hi hz0 hz1 hz2 rfl (by decide) (by rfl) HR1.out ⟨wr.heap.size, 0, none⟩ 2 2 [.int .u64 ca, .int .u64 cb] (by rfl) rfl HN2.out (one2 _ _ _ _) (by unfold maxLen; omega) (by omega) ?_; intro v' w6 lq' hr4 hc4 hq4; have Z4 := FIN.out w6 v' lq' hr4 hc4 hq4; obtain ⟨ao5, cap5, rfl, _⟩ := hr4.rd; have HCW6 := Lib.hid Z4.2.1; have HCW7 := Lib.hid Z4.2.2; have Z5 := Lib.hid Z4.1; have K2 := HA2.out w6 Z4.2.1; have K3 := HA3.out w6 Z4.2.1; have K4 := HKX.out w6 Z4.2.2; clear hr4 hc4 hq4 Z4))
      all_goals
        go_wp2_with fail
        go_roundw
        case rel => exact ⟨j + 1, lq', by go_num, by omega, Z5.out.1, HCW7.out, Z5.out.2⟩
        case measure => simp [intOf]; omega
    · obtain rfl : gl = j := by omega
      have Z0 : Hid (Row wr 24 1 (.slice al (src1 v gl).length cl) lq (src2 v (fun _ => true) 0).length (ints .u64 (src2 v (fun _ => true) 0)) ∧ Ch [] W wr ∧ ∀ q ∈ lq, W.heap.size ≤ q) := Lib.hid ⟨by rw [HE1.out]; exact HROW.out, hc, hq⟩
      clear hc hq HROW HC HQ
      generalize (src1 v gl).length = len0 at *
      go_wp2_with fail
      clear k0 k3 k4 k5 k6
      go_loopw [42, 5] (fun i lv wr => ∃ (j : Nat) (lq : List Nat), i = .int .i64 j ∧ j ≤ nl ∧ Row wr 24 1 lv lq (src2 v (fun _ => true) j).length (ints .u64 (src2 v (fun _ => true) j)) ∧ Ch [] W wr ∧ ∀ q ∈ lq, W.heap.size ≤ q) (fun i _ _ => nl - (intOf i).toNat)
      case atStart => exact ⟨0, lq, rfl, by omega, Z0.out.1, Z0.out.2.1, Z0.out.2.2⟩
      case round =>
        obtain ⟨j, lq, rfl, hj, hrow, hc, hq⟩ := hrel
        clear Z0
        obtain ⟨al, cl, rfl, l1, l2, _⟩ := hrow.rd
        have HROW := Lib.hid hrow
        have HC := Lib.hid hc
        have HQ := Lib.hid hq
        clear hrow
        by_cases hlt : j < nl
        · have hjl : j < v.lanes.length := by rw [HNL.out]; exact hlt
          have ltJ : (j : Int) < nl := by omega
          obtain ⟨b, off, hal, c1, c2, c3⟩ := (HV.out.ch (HC0.out.trans' hc)).lane j hjl
          have hmem := lane_mem hjl
          have hm : (v.lanes.getD j ln0).roots.length ≤ 100000 := by have := rootsN_mem hmem; omega
          have HRR2 := Lib.hid (fun (w6 : World) (h6 : Ch [] w w6) => (HV.out.ch h6).roots j hjl)
          have HNX := Lib.hid (src2_next v (fun _ => true) j hjl)
          have hle := HS2.out j
          rw [hal]
          clear hal hmem hjl
          generalize v.lanes.getD j ln0 = x at *
          obtain ⟨xr, xs, xe⟩ := x
          simp only at hm c1 c2 c3 HRR2
          have CA := Lib.hid ((Ch.refl [] wr).alloc (.cells #[.slice (a.la j) xr.length (a.lc j), .bool xs, .bool xe] 71))
          have KC := guarded1_any (wr.alloc (.cells #[.slice (a.la j) xr.length (a.lc j), .bool xs, .bool xe] 71)) (a.la j) xr.length (a.lc j) xs xe
          unfold lr at HNX
          simp only at HNX
          generalize hL : src2 v (fun _ => true) j = L at *
          have HL := Lib.hid hL
          clear hL hq hc
          generalize hnL : L.length = nL at *
          have HNLL := Lib.hid hnL
          clear hnL
          generalize hxl : xr.length = xl at *
          have HXL := Lib.hid hxl
          clear hxl
          generalize a.la j = xa at *
          generalize a.lc j = xcap at *
          cases xs
          · simp only [Bool.not_false, Bool.true_and] at HNX
            cases xe
            · go_wp2_with fail
              refine KC.mono ?_
              rintro e w3 ⟨rfl, h3⟩
              have H3 := Lib.hid (CA.out.trans' h3)
              have hnc := h3.heap (heap_new wr (.cells #[.slice xa xl xcap, .bool false, .bool false] 71)) (by simp)
              have d0 := cell_at (i := 0) hnc
              simp only [List.getElem?_toArray, List.getElem?_cons_zero, List.getElem?_cons_succ] at d0
              have HRD := Lib.hid (HRR2.out w3 (HC0.out.trans' (HC.out.trans' H3.out))).rd
              have HR1 := Lib.hid (HROW.out.ch H3.out (by simp))
              have H1C := Lib.hid (ints_one .u64 xr)
              clear KC h3 hnc c1 c2 c3
              go_wp2_with (at_builtin; go_loud (refine wpList_append_list _ rfl _ _ 62 rfl 24 i0 _ 1 8 Tryd.underlying62 hi hz0 hz1 hz2 rfl (by decide) rfl HR1.out xa xl xcap rfl (ints .u64 xr) (by have := HRD.out; rwa [Nat.mul_one]) H1C.out (by unfold maxLen; omega) (by omega) ?_))
              intro v' w6 lq' hr4 hc4 hq4
              obtain ⟨ao5, cap5, rfl, _⟩ := hr4.rd
              have HR4 := Lib.hid hr4
              have HC4 := Lib.hid hc4
              have HQ4 := Lib.hid hq4
              clear hr4 hc4 hq4 d0
              go_wp2_with fail
              go_roundw
              case rel =>
                refine ⟨j + 1, lq', by go_num, by omega, by rw [HNX.out, if_pos trivial, List.length_append, HNLL.out, HXL.out, show ints .u64 (L ++ xr) = ints .u64 L ++ ints .u64 xr by simp [ints]]; exact HR4.out, (HC.out.trans' H3.out).trans HC4.out (fun q hq => .inr (HQ.out q hq)), fun q hq => ?_⟩
                rcases HQ4.out with rfl | ⟨q', rfl, h1, h2⟩
                · exact HQ.out q hq
                · simp at hq; subst hq
                  have := H3.out.size
                  have := HC.out.size
                  omega
              case measure => simp [intOf]; omega
            · go_wp2_with fail
              refine KC.mono ?_
              rintro e w3 ⟨rfl, h3⟩
              have H3 := Lib.hid (CA.out.trans' h3)
              have hnc := h3.heap (heap_new wr (.cells #[.slice xa xl xcap, .bool false, .bool true] 71)) (by simp)
              have d0 := cell_at (i := 0) hnc
              simp only [List.getElem?_toArray, List.getElem?_cons_zero, List.getElem?_cons_succ] at d0
              have HRD := Lib.hid (HRR2.out w3 (HC0.out.trans' (HC.out.trans' H3.out))).rd
              have HR1 := Lib.hid (HROW.out.ch H3.out (by simp))
              have H1C := Lib.hid (ints_one .u64 xr)
              clear KC h3 hnc c1 c2 c3
              go_wp2_with (at_builtin; go_loud (refine wpList_append_list _ rfl _ _ 62 rfl 24 i0 _ 1 8 Tryd.underlying62 hi hz0 hz1 hz2 rfl (by decide) rfl HR1.out xa xl xcap rfl (ints .u64 xr) (by have := HRD.out; rwa [Nat.mul_one]) H1C.out (by unfold maxLen; omega) (by omega) ?_))
              intro v' w6 lq' hr4 hc4 hq4
              obtain ⟨ao5, cap5, rfl, _⟩ := hr4.rd
              have HR4 := Lib.hid hr4
              have HC4 := Lib.hid hc4
              have HQ4 := Lib.hid hq4
              clear hr4 hc4 hq4 d0
              go_wp2_with fail
              go_roundw
              case rel =>
                refine ⟨j + 1, lq', by go_num, by omega, by rw [HNX.out, if_pos trivial, List.length_append, HNLL.out, HXL.out, show ints .u64 (L ++ xr) = ints .u64 L ++ ints .u64 xr by simp [ints]]; exact HR4.out, (HC.out.trans' H3.out).trans HC4.out (fun q hq => .inr (HQ.out q hq)), fun q hq => ?_⟩
                rcases HQ4.out with rfl | ⟨q', rfl, h1, h2⟩
                · exact HQ.out q hq
                · simp at hq; subst hq
                  have := H3.out.size
                  have := HC.out.size
                  omega
              case measure => simp [intOf]; omega
          · simp only [Bool.not_true, Bool.false_and, Bool.false_eq_true, if_false, List.append_nil] at HNX
            go_wp2_with fail
            go_roundw
            case rel => exact ⟨j + 1, lq, by go_num, by omega, by rw [HNX.out, HNLL.out]; exact HROW.out.ch CA.out (by simp), HC.out.trans' CA.out, HQ.out⟩
            case measure => simp [intOf]; omega
        · obtain rfl : nl = j := by omega
          have Z : Hid (Mk1 24 (ints .u64 (srcL v (fun _ => true))) (srcL v (fun _ => true)).length w (.returned (.slice al (src2 v (fun _ => true) nl).length cl)) wr) := Lib.hid (by
            rw [← HE2.out]
            have s1 := HC0.out.size
            exact ⟨_, lq, rfl, HROW.out, HC0.out.trans' hc, fun q hq2 => by have := hq q hq2; omega⟩)
          clear hc hq
          generalize (src2 v (fun _ => true) nl).length = len1 at *
          go_wp2_with fail
          rw [HRR.out]
          exact Z.out
set_option maxHeartbeats 4000000 in
theorem srcE_any (w : World) (a : VA) (v : Vw) (hv : VM w a v) (hr : VR v) (hk : VOk v) :
    Calls Tryd.prog 91 #[.agg (a.arr v), .func (.func 93) #[] #[]] w (Mk1 24 (ints .u64 (srcL v Ln.en)) (srcL v Ln.en).length w) := by
  obtain ⟨W, hW⟩ : ∃ W, W = w.alloc (.cells (a.arr v) 65) := ⟨_, rfl⟩
  have C0 : Ch [] w W := by rw [hW]; exact (Ch.refl _ _).alloc _
  have hbx : W.heap[w.heap.size]? = some (.cells (a.arr v) 65 (0, 0)) := by rw [hW]; exact heap_new w _
  obtain ⟨i0, hi, he⟩ := Option.map_eq_some_iff.1 infoWord
  simp only [Prod.mk.injEq] at he
  obtain ⟨hz0, hz1, hz2⟩ := he
  have HBX := Lib.hid hbx
  have KX : Hid (∀ w1 : World, Ch [] W w1 → w1.cell? ⟨w.heap.size, 0, none⟩ = some (.slice a.ac v.cells.length a.cc) ∧ w1.cell? ⟨w.heap.size, 3, none⟩ = some (.slice a.ag v.grey.length a.cg) ∧ w1.cell? ⟨w.heap.size, 4, none⟩ = some (.slice a.agl v.globals.length a.cgl) ∧ w1.cell? ⟨w.heap.size, 5, none⟩ = some (.int .i64 v.laid) ∧ w1.cell? ⟨w.heap.size, 6, none⟩ = some (.slice a.al v.lanes.length a.cl)) := Lib.hid (fun w1 h1 => by
    have hh := h1.heap HBX.out (by simp)
    unfold VA.arr at hh
    exact ⟨cell_at hh, cell_at hh, cell_at hh, cell_at hh, cell_at hh⟩)
  obtain ⟨k0, k3, k4, k5, k6⟩ := KX.out W (Ch.refl _ _)
  have HC0 := Lib.hid C0
  have HV := Lib.hid hv
  have HR := Lib.hid hr
  have HOK := Lib.hid hk
  have HSZ0 : Hid (W.heap.size = w.heap.size + 1) := Lib.hid (by rw [hW, World.size_alloc])
  have n1 := hr.n1
  have n2 := hr.n2
  have n3 := hr.n3
  have n4 := hr.n4
  have n5 := hr.n5
  have hgl := hv.globals.ch C0 (T' := []) (by simp)
  obtain ⟨hl0, hl1⟩ := hk.laid
  have hcap := hv.capg
  have et : Tryd.prog.elem 62 = 24 := by kernel_rfl
  have hS1 : ∀ j, (src1 v j).length ≤ 300000 := fun j => by have := src1_len v j; omega
  have hS2 : ∀ j, (src2 v Ln.en j).length ≤ 500000 := fun j => by have := src2_len v Ln.en j; omega
  have HS1 := Lib.hid hS1
  have HS2 := Lib.hid hS2
  have HE0 : Hid (src1 v 0 = v.globals.drop v.laid.toNat) := Lib.hid (by simp [src1])
  have HE1 : Hid (src2 v Ln.en 0 = src1 v v.grey.length) := Lib.hid (by simp [src2])
  have HE2 : Hid (src2 v Ln.en v.lanes.length = srcL v Ln.en) := Lib.hid rfl
  obtain ⟨ld, hld⟩ : ∃ ld : Nat, v.laid = ld := ⟨v.laid.toNat, by omega⟩
  unfold VA.arr at hW ⊢
  obtain ⟨R, hR⟩ : ∃ R, R = Mk1 24 (ints .u64 (srcL v Ln.en)) (srcL v Ln.en).length w := ⟨_, rfl⟩
  have HRR := Lib.hid hR
  rw [← hR]
  rw [hld] at HE0 hl0 hl1 hW k5 ⊢
  rw [Int.toNat_natCast] at HE0
  obtain ⟨so, sc, hsl1, hsl2, hsl3⟩ := slice_from (P := Tryd.prog) 62 24 (by rw [et]; exact Tryd.underlying62) et i0 hi hz1 a.agl v.globals.length a.cgl ld (by omega) hcap
  have CL := Clone_any W so (v.globals.length - ld) sc (v.globals.drop ld) (by omega) (hsl3 W .u64 _ hgl)
  unfold Mk2 at CL
  rw [← HE0.out] at CL
  have HX0 : Hid ((src1 v 0).length = v.globals.length - ld) := Lib.hid (by rw [HE0.out]; simp)
  clear hv hr hk hbx C0 hR hS1 hS2 hgl hsl3 et
  generalize hng : v.globals.length = ng at *
  generalize hgln : v.grey.length = gl at *
  generalize hnl : v.lanes.length = nl at *
  generalize hcl : v.cells.length = n at *
  have HNG := Lib.hid hng
  have HGL := Lib.hid hgln
  have HNL := Lib.hid hnl
  have HCL := Lib.hid hcl
  clear hng hgln hnl hcl
  go_enter Tryd.func91, Tryd.ntmps91
  go_wp2_with fail
  rw [← hW]
  clear hsl1 hsl2 hW
  refine CL.mono ?_
  rintro e w2 ⟨lv, lq, rfl, g1, g2, g3⟩
  rw [← HX0.out] at g1
  have G1 := Lib.hid g1
  have G2 := Lib.hid g2
  have G3 := Lib.hid g3
  obtain ⟨a1, c1, rfl, _⟩ := g1.rd
  rw [HX0.out] at G1 ⊢
  clear CL g1 k0 k3 k4 k5 k6
  obtain ⟨k0, k3, k4, k5, k6⟩ := KX.out w2 g2
  clear g2 g3
  go_wp2_with fail
  clear k0 k3 k4 k5 k6
  go_loopw [19, 5] (fun i lv wr => ∃ (j : Nat) (lq : List Nat), i = .int .i64 j ∧ j ≤ gl ∧ Row wr 24 1 lv lq (src1 v j).length (ints .u64 (src1 v j)) ∧ Ch [] W wr ∧ ∀ q ∈ lq, W.heap.size ≤ q) (fun i _ _ => gl - (intOf i).toNat)
  case atStart => exact ⟨0, lq, rfl, by omega, by rw [HX0.out]; exact G1.out, G2.out, fun q hq => (G3.out q hq).1⟩
  case round =>
    obtain ⟨j, lq, rfl, hj, hrow, hc, hq⟩ := hrel
    clear G1 G2 G3
    obtain ⟨al, cl, rfl, l1, l2, _⟩ := hrow.rd
    obtain ⟨k0, k3, k4, k5, k6⟩ := KX.out wr hc
    have HROW := Lib.hid hrow
    have HC := Lib.hid hc
    have HQ := Lib.hid hq
    clear hrow
    by_cases hlt : j < gl
    · have hjl : j < v.grey.length := by rw [HGL.out]; exact hlt
      have ltJ : (j : Int) < gl := by omega
      obtain ⟨b, off, hag, _, hcg⟩ := HV.out.grey.2.resolve_left (by omega)
      have a1 := (HC0.out.trans' hc).cell ((hcg j (by omega)).trans (ints_get hjl)) (by simp)
      obtain ⟨hg0, hg1⟩ := HOK.out.greyAt j hjl
      have HNX := Lib.hid (src1_next v j hjl)
      generalize v.grey.getD j 0 = g at *
      obtain ⟨c, rfl⟩ : ∃ c : Nat, g = c := ⟨g.toNat, by omega⟩
      unfold cw at HNX
      rw [Int.toNat_natCast] at hg1 HNX
      obtain ⟨bh, offh, hab, _, hjh⟩ := HV.out.cells.2.resolve_left (by omega)
      have HA : Hid (∀ W', Ch [] w W' → ∀ t, t < 4 → W'.cell? ⟨bh, offh + (c * 4 + t), none⟩ = (celV (v.cells.getD c z))[t]?) := Lib.hid (fun W' hcW t ht => by
        have h3 := (hjh (c * 4 + t) (by omega)).trans (flat_get v.cells c t hg1 ht)
        rw [List.getElem?_eq_getElem (by simp [celV]; omega)] at h3 ⊢
        exact hcW.cell h3 (by simp))
      have hcn : c < n := by rw [← HCL.out]; exact hg1
      have ltC : (c : Int) < n := by omega
      generalize v.cells.getD c z = y at *
      obtain ⟨ck, cc, ca, cb⟩ := y
      simp only at HNX
      have HA2 : Hid (∀ W', Ch [] w W' → W'.cell? ⟨bh, offh + c * 4 + 2, none⟩ = some (.int .u64 ca)) := Lib.hid (fun W' hc => HA.out W' hc 2 (by omega))
      have HA3 : Hid (∀ W', Ch [] w W' → W'.cell? ⟨bh, offh + c * 4 + 3, none⟩ = some (.int .u64 cb)) := Lib.hid (fun W' hc => HA.out W' hc 3 (by omega))
      have HKX : Hid (∀ w1 : World, Ch [] W w1 → w1.cell? ⟨w.heap.size, 0, none⟩ = some (.slice (some ⟨bh, offh, none⟩) n a.cc)) := Lib.hid (fun w1 h1 => by rw [← hab]; exact (KX.out w1 h1).1)
      have hle := HS1.out j
      generalize hL : src1 v j = L at *
      have HL := Lib.hid hL
      clear hL
      generalize hnL : L.length = nL at *
      have HNLL := Lib.hid hnL
      clear hnL
      have HCWr : Hid (Ch [] w wr) := Lib.hid (HC0.out.trans' hc)
      have HR1 := Lib.hid (HROW.out.ch ((Ch.refl [] wr).drew.alloc (.cells #[.int .u64 ca, .int .u64 cb] 24)) (by simp))
      have HN2 := Lib.hid (newL (w := wr.drew) (b := wr.heap.size) rfl [.int .u64 ca, .int .u64 cb] 24)
      have FIN : Hid (∀ (w6 : World) (v' : Value) (lq' : List Nat), Row w6 24 1 v' lq' (nL + 2) (ints .u64 L ++ [.int .u64 ca, .int .u64 cb]) → Ch lq (wr.drew.alloc (.cells #[.int .u64 ca, .int .u64 cb] 24)) w6 → (lq' = lq ∨ ∃ q', lq' = [q'] ∧ (wr.drew.alloc (.cells #[.int .u64 ca, .int .u64 cb] 24)).heap.size ≤ q' ∧ q' < w6.heap.size) →
          (Row w6 24 1 v' lq' (src1 v (j + 1)).length (ints .u64 (src1 v (j + 1))) ∧ ∀ q ∈ lq', W.heap.size ≤ q) ∧ Ch [] w w6 ∧ Ch [] W w6) := Lib.hid (fun w6 v' lq' hr4 hc4 hq4 => by
        have hWw : Ch [] W w6 := ((HC.out.drew).alloc _).trans hc4 (fun q hq => .inr (HQ.out q hq))
        refine ⟨⟨?_, fun q hqq => ?_⟩, HC0.out.trans' hWw, hWw⟩
        · rw [HNX.out, List.length_append, HNLL.out, show ints .u64 (L ++ [ca, cb]) = ints .u64 L ++ [.int .u64 ca, .int .u64 cb] by simp [ints]]
          exact hr4
        · rcases hq4 with rfl | ⟨q', rfl, h1, h2⟩
          · exact HQ.out q hqq
          · simp at hqq; subst hqq
            have h3 : (wr.drew.alloc (.cells #[.int .u64 ca, .int .u64 cb] 24)).heap.size = wr.heap.size + 1 := by rw [World.size_alloc]; rfl
            have := HC.out.size
            omega)
      rw [hag]
      rw [hab] at k0
      clear hag hab hjh hcg HA hc hq HNX HL HNLL HROW HX0 HE0 HE1 HE2 HSZ0 hcn hg0 hg1 hjl
      go_wp2_with fail
      go_region_held3 (fun w' => (w'.cell? ⟨bh, offh + c * 4 + 2, none⟩ = some (.int .u64 ca) ∧ w'.cell? ⟨bh, offh + c * 4 + 3, none⟩ = some (.int .u64 cb)) ∧ w'.cell? ⟨w.heap.size, 0, none⟩ = some (.slice (some ⟨bh, offh, none⟩) n a.cc)) (refine ⟨⟨HA2.out _ ?_, HA3.out _ ?_⟩, HKX.out _ ?_⟩ <;> repeat (first | exact HCWr.out | exact HC.out | exact HCW6.out | exact HCW7.out | apply Ch.drew | apply Ch.alloc))
        (first | (refine step_append_row (by rfl) _ _ 62 (by rfl) 24 i0 (.int .u64 0) 1 8 Tryd.underlying62 hi hz0 hz1 hz2 rfl (by decide) (by rfl) HR1.out ⟨wr.heap.size, 0, none⟩ 2 2 [.int .u64 ca, .int .u64 cb] (by rfl) rfl HN2.out (one2 _ _ _ _) (by unfold maxLen; omega) (by omega) ?_; intro v' w6 lq' hr4 hc4 hq4; have Z4 := FIN.out w6 v' lq' hr4 hc4 hq4; obtain ⟨ao5, cap5, rfl, _⟩ := hr4.rd; have HCW6 := Lib.hid Z4.2.1; have HCW7 := Lib.hid Z4.2.2; have Z5 := Lib.hid Z4.1; have K2 := HA2.out w6 Z4.2.1; have K3 := HA3.out w6 Z4.2.1; have K4 := HKX.out w6 Z4.2.2; clear hr4 hc4 hq4 Z4))
      all_goals
        go_wp2_with fail
        go_roundw
        case rel => exact ⟨j + 1, lq', by go_num, by omega, Z5.out.1, HCW7.out, Z5.out.2⟩
        case measure => simp [intOf]; omega
    · obtain rfl : gl = j := by omega
      have Z0 : Hid (Row wr 24 1 (.slice al (src1 v gl).length cl) lq (src2 v Ln.en 0).length (ints .u64 (src2 v Ln.en 0)) ∧ Ch [] W wr ∧ ∀ q ∈ lq, W.heap.size ≤ q) := Lib.hid ⟨by rw [HE1.out]; exact HROW.out, hc, hq⟩
      clear hc hq HROW HC HQ
      generalize (src1 v gl).length = len0 at *
      go_wp2_with fail
      clear k0 k3 k4 k5 k6
      go_loopw [42, 5] (fun i lv wr => ∃ (j : Nat) (lq : List Nat), i = .int .i64 j ∧ j ≤ nl ∧ Row wr 24 1 lv lq (src2 v Ln.en j).length (ints .u64 (src2 v Ln.en j)) ∧ Ch [] W wr ∧ ∀ q ∈ lq, W.heap.size ≤ q) (fun i _ _ => nl - (intOf i).toNat)
      case atStart => exact ⟨0, lq, rfl, by omega, Z0.out.1, Z0.out.2.1, Z0.out.2.2⟩
      case round =>
        obtain ⟨j, lq, rfl, hj, hrow, hc, hq⟩ := hrel
        clear Z0
        obtain ⟨al, cl, rfl, l1, l2, _⟩ := hrow.rd
        have HROW := Lib.hid hrow
        have HC := Lib.hid hc
        have HQ := Lib.hid hq
        clear hrow
        by_cases hlt : j < nl
        · have hjl : j < v.lanes.length := by rw [HNL.out]; exact hlt
          have ltJ : (j : Int) < nl := by omega
          obtain ⟨b, off, hal, c1, c2, c3⟩ := (HV.out.ch (HC0.out.trans' hc)).lane j hjl
          have hmem := lane_mem hjl
          have hm : (v.lanes.getD j ln0).roots.length ≤ 100000 := by have := rootsN_mem hmem; omega
          have HRR2 := Lib.hid (fun (w6 : World) (h6 : Ch [] w w6) => (HV.out.ch h6).roots j hjl)
          have HNX := Lib.hid (src2_next v Ln.en j hjl)
          have hle := HS2.out j
          rw [hal]
          clear hal hmem hjl
          generalize v.lanes.getD j ln0 = x at *
          obtain ⟨xr, xs, xe⟩ := x
          simp only at hm c1 c2 c3 HRR2
          have CA := Lib.hid ((Ch.refl [] wr).alloc (.cells #[.slice (a.la j) xr.length (a.lc j), .bool xs, .bool xe] 71))
          have KC := guarded2_any (wr.alloc (.cells #[.slice (a.la j) xr.length (a.lc j), .bool xs, .bool xe] 71)) (a.la j) xr.length (a.lc j) xs xe
          unfold lr at HNX
          simp only at HNX
          generalize hL : src2 v Ln.en j = L at *
          have HL := Lib.hid hL
          clear hL hq hc
          generalize hnL : L.length = nL at *
          have HNLL := Lib.hid hnL
          clear hnL
          generalize hxl : xr.length = xl at *
          have HXL := Lib.hid hxl
          clear hxl
          generalize a.la j = xa at *
          generalize a.lc j = xcap at *
          cases xs
          · simp only [Bool.not_false, Bool.true_and] at HNX
            cases xe
            · go_wp2_with fail
              refine KC.mono ?_
              rintro e w3 ⟨rfl, h3⟩
              have H3 := Lib.hid (CA.out.trans' h3)
              clear KC h3 c1 c2 c3
              go_wp2_with fail
              go_roundw
              case rel => exact ⟨j + 1, lq, by go_num, by omega, by rw [HNX.out, if_neg (by simp), List.append_nil, HNLL.out]; exact HROW.out.ch H3.out (by simp), HC.out.trans' H3.out, HQ.out⟩
              case measure => simp [intOf]; omega
            · go_wp2_with fail
              refine KC.mono ?_
              rintro e w3 ⟨rfl, h3⟩
              have H3 := Lib.hid (CA.out.trans' h3)
              have hnc := h3.heap (heap_new wr (.cells #[.slice xa xl xcap, .bool false, .bool true] 71)) (by simp)
              have d0 := cell_at (i := 0) hnc
              simp only [List.getElem?_toArray, List.getElem?_cons_zero, List.getElem?_cons_succ] at d0
              have HRD := Lib.hid (HRR2.out w3 (HC0.out.trans' (HC.out.trans' H3.out))).rd
              have HR1 := Lib.hid (HROW.out.ch H3.out (by simp))
              have H1C := Lib.hid (ints_one .u64 xr)
              clear KC h3 hnc c1 c2 c3
              go_wp2_with (at_builtin; go_loud (refine wpList_append_list _ rfl _ _ 62 rfl 24 i0 _ 1 8 Tryd.underlying62 hi hz0 hz1 hz2 rfl (by decide) rfl HR1.out xa xl xcap rfl (ints .u64 xr) (by have := HRD.out; rwa [Nat.mul_one]) H1C.out (by unfold maxLen; omega) (by omega) ?_))
              intro v' w6 lq' hr4 hc4 hq4
              obtain ⟨ao5, cap5, rfl, _⟩ := hr4.rd
              have HR4 := Lib.hid hr4
              have HC4 := Lib.hid hc4
              have HQ4 := Lib.hid hq4
              clear hr4 hc4 hq4 d0
              go_wp2_with fail
              go_roundw
              case rel =>
                refine ⟨j + 1, lq', by go_num, by omega, by rw [HNX.out, if_pos trivial, List.length_append, HNLL.out, HXL.out, show ints .u64 (L ++ xr) = ints .u64 L ++ ints .u64 xr by simp [ints]]; exact HR4.out, (HC.out.trans' H3.out).trans HC4.out (fun q hq => .inr (HQ.out q hq)), fun q hq => ?_⟩
                rcases HQ4.out with rfl | ⟨q', rfl, h1, h2⟩
                · exact HQ.out q hq
                · simp at hq; subst hq
                  have := H3.out.size
                  have := HC.out.size
                  omega
              case measure => simp [intOf]; omega
          · simp only [Bool.not_true, Bool.false_and, Bool.false_eq_true, if_false, List.append_nil] at HNX
            go_wp2_with fail
            go_roundw
            case rel => exact ⟨j + 1, lq, by go_num, by omega, by rw [HNX.out, HNLL.out]; exact HROW.out.ch CA.out (by simp), HC.out.trans' CA.out, HQ.out⟩
            case measure => simp [intOf]; omega
        · obtain rfl : nl = j := by omega
          have Z : Hid (Mk1 24 (ints .u64 (srcL v Ln.en)) (srcL v Ln.en).length w (.returned (.slice al (src2 v Ln.en nl).length cl)) wr) := Lib.hid (by
            rw [← HE2.out]
            have s1 := HC0.out.size
            exact ⟨_, lq, rfl, HROW.out, HC0.out.trans' hc, fun q hq2 => by have := hq q hq2; omega⟩)
          clear hc hq
          generalize (src2 v Ln.en nl).length = len1 at *
          go_wp2_with fail
          rw [HRR.out]
          exact Z.out
end Go.Proofs.YtlhhcocdhkbdnaaDoor.Bp
