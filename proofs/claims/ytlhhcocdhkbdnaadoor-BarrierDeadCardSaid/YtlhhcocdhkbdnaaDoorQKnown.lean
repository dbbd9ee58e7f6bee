/-
  THE WALK of barrier.known.
-/
import Derived.Test.YtlhhcocdhkbdnaaDoorQSrcB
set_option linter.unusedVariables false
set_option linter.unusedSimpArgs false
set_option maxRecDepth 100000
namespace Go.Proofs.YtlhhcocdhkbdnaaDoor.Bp
open Go.RowKit Go.Proofs.YtlhhcocdhkbdnaaDoor.Wd Go.Proofs.YtlhhcocdhkbdnaaDoor.Hp Go.Proofs.YtlhhcocdhkbdnaaDoor.Gp Go.Proofs.YtlhhcocdhkbdnaaDoor.Sm Go.Proofs.YtlhhcocdhkbdnaaDoor.Gr
def blackC (x : Cel) : Bool := x.k != 0 && x.c == 2
def bw (x : Cel) : List Int := if blackC x then [x.a, x.b] else []
def sr (l : Ln) : List Int := if l.sc then l.roots else []
def kn1 (v : Vw) (j : Nat) : List Int := v.globals.take v.laid.toNat ++ (v.cells.take j).flatMap bw
def kn2 (v : Vw) (j : Nat) : List Int := kn1 v v.cells.length ++ (v.lanes.take j).flatMap sr
def knownL (v : Vw) : List Int := kn2 v v.lanes.length
theorem kn1_next (v : Vw) (j : Nat) (hj : j < v.cells.length) : kn1 v (j + 1) = kn1 v j ++ bw (v.cells.getD j z) := by
  unfold kn1; rw [take_snoc v.cells j z hj]; simp
theorem kn2_next (v : Vw) (j : Nat) (hj : j < v.lanes.length) : kn2 v (j + 1) = kn2 v j ++ sr (v.lanes.getD j ln0) := by
  unfold kn2; rw [take_snoc v.lanes j ln0 hj]; simp
theorem bw_len : ∀ l : List Cel, (l.flatMap bw).length ≤ 2 * l.length
  | [] => by simp
  | x :: l => by
    have := bw_len l
    rw [List.flatMap_cons, List.length_append, List.length_cons]
    have h2 : (bw x).length ≤ 2 := by unfold bw; split <;> simp
    omega
theorem kn1_len (v : Vw) (j : Nat) : (kn1 v j).length ≤ v.globals.length + 2 * v.cells.length := by
  unfold kn1
  have h1 := bw_len (v.cells.take j)
  have h2 : (v.cells.take j).length ≤ v.cells.length := by rw [List.length_take]; omega
  have h3 : (v.globals.take v.laid.toNat).length ≤ v.globals.length := by rw [List.length_take]; omega
  rw [List.length_append]; omega
theorem sr_len : ∀ l : List Ln, (l.flatMap sr).length ≤ rootsN l
  | [] => by simp
  | x :: l => by
    have := sr_len l
    rw [List.flatMap_cons, List.length_append]
    simp only [rootsN, List.map_cons, List.sum_cons]
    unfold rootsN at this
    have h2 : (sr x).length ≤ x.roots.length := by unfold sr; split <;> simp
    omega
theorem kn2_len (v : Vw) (j : Nat) : (kn2 v j).length ≤ v.globals.length + 2 * v.cells.length + rootsN v.lanes := by
  unfold kn2
  rw [List.length_append]
  have h1 := kn1_len v v.cells.length
  have h2 := sr_len (v.lanes.take j)
  have h3 := rootsN_take v.lanes j
  omega
set_option maxHeartbeats 4000000 in
theorem known_any (w : World) (a : VA) (v : Vw) (hv : VM w a v) (hr : VR v) (hk : VOk v) :
    Calls Tryd.prog 72 #[.agg (a.arr v)] w (Mk1 24 (ints .u64 (knownL v)) (knownL v).length w) := by
  obtain ⟨W, hW⟩ : ∃ W, W = w.alloc (.cells (a.arr v) 65) := ⟨_, rfl⟩
  have C0 : Ch [] w W := by rw [hW]; exact (Ch.refl _ _).alloc _
  have hbx : W.heap[w.heap.size]? = some (.cells (a.arr v) 65 (0, 0)) := by rw [hW]; exact heap_new w _
  obtain ⟨i0, hi, he⟩ := Option.map_eq_some_iff.1 infoWord
  simp only [Prod.mk.injEq] at he
  obtain ⟨hz0, hz1, hz2⟩ := he
  have HBX := Lib.hid hbx
  have KX : Hid (∀ w1 : World, Ch [] W w1 → w1.cell? ⟨w.heap.size, 0, none⟩ = some (.slice a.ac v.cells.length a.cc) ∧ w1.cell? ⟨w.heap.size, 4, none⟩ = some (.slice a.agl v.globals.length a.cgl) ∧ w1.cell? ⟨w.heap.size, 5, none⟩ = some (.int .i64 v.laid) ∧ w1.cell? ⟨w.heap.size, 6, none⟩ = some (.slice a.al v.lanes.length a.cl)) := Lib.hid (fun w1 h1 => by
    have hh := h1.heap HBX.out (by simp)
    unfold VA.arr at hh
    exact ⟨cell_at hh, cell_at hh, cell_at hh, cell_at hh⟩)
  obtain ⟨k0, k4, k5, k6⟩ := KX.out W (Ch.refl _ _)
  have HC0 := Lib.hid C0
  have HV := Lib.hid hv
  have HR := Lib.hid hr
  have n1 := hr.n1
  have n3 := hr.n3
  have n4 := hr.n4
  have n5 := hr.n5
  have hgl := hv.globals.ch C0 (T' := []) (by simp)
  obtain ⟨hl0, hl1⟩ := hk.laid
  have hcap := hv.capg
  have et : Tryd.prog.elem 62 = 24 := by kernel_rfl
  have hS1 : ∀ j, (kn1 v j).length ≤ 300000 := fun j => by have := kn1_len v j; omega
  have hS2 : ∀ j, (kn2 v j).length ≤ 500000 := fun j => by have := kn2_len v j; omega
  have HS1 := Lib.hid hS1
  have HS2 := Lib.hid hS2
  have HE0 : Hid (kn1 v 0 = v.globals.take v.laid.toNat) := Lib.hid (by simp [kn1])
  have HE1 : Hid (kn2 v 0 = kn1 v v.cells.length) := Lib.hid (by simp [kn2])
  have HE2 : Hid (kn2 v v.lanes.length = knownL v) := Lib.hid rfl
  obtain ⟨ld, hld⟩ : ∃ ld : Nat, v.laid = ld := ⟨v.laid.toNat, by omega⟩
  unfold VA.arr at hW ⊢
  obtain ⟨R, hR⟩ : ∃ R, R = Mk1 24 (ints .u64 (knownL v)) (knownL v).length w := ⟨_, rfl⟩
  have HRR := Lib.hid hR
  rw [← hR]
  rw [hld] at HE0 hl0 hl1 hW k5 ⊢
  rw [Int.toNat_natCast] at HE0
  obtain ⟨so, sc, hsl1, hsl2, hsl3⟩ := slice_to (P := Tryd.prog) 62 24 (by rw [et]; exact Tryd.underlying62) et i0 hi hz1 a.agl v.globals.length a.cgl ld (by omega) hcap
  have CL := Clone_any W so ld sc (v.globals.take ld) (by omega) (hsl3 W .u64 _ hgl)
  unfold Mk2 at CL
  rw [← HE0.out] at CL
  have HX0 : Hid ((kn1 v 0).length = ld) := Lib.hid (by rw [HE0.out]; simp; omega)
  clear hv hr hk hbx C0 hR hS1 hS2 hgl hsl3 et
  generalize hng : v.globals.length = ng at *
  generalize hnl : v.lanes.length = nl at *
  generalize hcl : v.cells.length = n at *
  have HNL := Lib.hid hnl
  have HCL := Lib.hid hcl
  clear hng hnl hcl
  go_enter Tryd.func72, Tryd.ntmps72
  go_wp2_with fail
  rw [← hW]
  clear hsl1 hsl2 hW
  refine CL.mono ?_
  rintro e w2 ⟨lv, lq, rfl, g1, g2, g3⟩
  rw [← HX0.out] at g1
  have G1 := Lib.hid g1
  have G2 := Lib.hid g2
  have G3 := Lib.hid g3
  obtain ⟨a1, c1, rfl, _⟩ := g1.rd
  rw [HX0.out] at G1 ⊢
  clear CL g1 k0 k4 k5 k6
  obtain ⟨k0, k4, k5, k6⟩ := KX.out w2 g2
  clear g2 g3
  go_wp2_with fail
  clear k0 k4 k5 k6
  go_loopw [17, 3] (fun i lv wr => ∃ (j : Nat) (lq : List Nat), i = .int .i64 j ∧ j ≤ n ∧ Row wr 24 1 lv lq (kn1 v j).length (ints .u64 (kn1 v j)) ∧ Ch [] W wr ∧ ∀ q ∈ lq, W.heap.size ≤ q) (fun i _ _ => n - (intOf i).toNat)
  case atStart => exact ⟨0, lq, rfl, by omega, by rw [HX0.out]; exact G1.out, G2.out, fun q hq => (G3.out q hq).1⟩
  case round =>
    obtain ⟨j, lq, rfl, hj, hrow, hc, hq⟩ := hrel
    clear G1 G2 G3
    obtain ⟨al, cl, rfl, l1, l2, _⟩ := hrow.rd
    have HROW := Lib.hid hrow
    have HC := Lib.hid hc
    have HQ := Lib.hid hq
    clear hrow
    by_cases hlt : j < n
    · have hjl : j < v.cells.length := by rw [HCL.out]; exact hlt
      have ltJ : (j : Int) < n := by omega
      obtain ⟨bh, offh, hab, _, hjh⟩ := HV.out.cells.2.resolve_left (by omega)
      have hA : ∀ t, t < 4 → wr.cell? ⟨bh, offh + (j * 4 + t), none⟩ = (celV (v.cells.getD j z))[t]? := fun t ht => by
        have h3 := (hjh (j * 4 + t) (by omega)).trans (flat_get v.cells j t hjl ht)
        rw [List.getElem?_eq_getElem (by simp [celV]; omega)] at h3 ⊢
        exact (HC0.out.trans' hc).cell h3 (by simp)
      have d0 := hA 0 (by omega)
      have d1 := hA 1 (by omega)
      have d2 := hA 2 (by omega)
      have d3 := hA 3 (by omega)
      have HNX := Lib.hid (kn1_next v j hjl)
      generalize v.cells.getD j z = y at *
      obtain ⟨ck, cc, ca, cb⟩ := y
      simp only [celV, List.getElem?_cons_zero, List.getElem?_cons_succ, Nat.add_zero, ← Nat.add_assoc] at d0 d1 d2 d3
      unfold bw blackC at HNX
      simp only at HNX
      have hle := HS1.out j
      generalize hL : kn1 v j = L at *
      have HL := Lib.hid hL
      clear hL
      generalize hnL : L.length = nL at *
      have HNLL := Lib.hid hnL
      clear hnL
      have CA := Lib.hid ((Ch.refl [] wr).alloc (.cells #[.int .u8 ck, .int .u8 cc, .int .u64 ca, .int .u64 cb] 58))
      rw [hab]
      clear hab hjh hA hc hq hjl
      by_cases hbl : ck ≠ 0 ∧ cc = 2
      · obtain ⟨k0, rfl⟩ := hbl
        have k0' : (ck != 0) = true := by simpa using k0
        rw [k0', show ((2 : Int) == 2) = true from rfl] at HNX
        simp only [Bool.and_true, if_true] at HNX
        have CB := Lib.hid (CA.out.alloc (.cells #[.int .u64 ca, .int .u64 cb] 24))
        have HR1 := Lib.hid (HROW.out.ch CB.out (by simp))
        have HN2 := Lib.hid (newL (w := wr.alloc (.cells #[.int .u8 ck, .int .u8 2, .int .u64 ca, .int .u64 cb] 58)) (b := wr.heap.size + 1) (by simp) [.int .u64 ca, .int .u64 cb] 24)
        go_wp2_with (at_builtin; go_loud (refine wpList_append_row _ rfl _ _ 62 rfl 24 i0 _ 1 8 Tryd.underlying62 hi hz0 hz1 hz2 rfl (by decide) rfl HR1.out ⟨wr.heap.size + 1, 0, none⟩ 2 2 [.int .u64 ca, .int .u64 cb] rfl rfl HN2.out (one2 _ _ _ _) (by unfold maxLen; omega) (by omega) ?_))
        intro v' w6 lq' hr4 hc4 hq4
        obtain ⟨ao5, cap5, rfl, _⟩ := hr4.rd
        have HR4 := Lib.hid hr4
        have HC4 := Lib.hid hc4
        have HQ4 := Lib.hid hq4
        clear hr4 hc4 hq4 d0 d1 d2 d3
        go_wp2_with fail
        go_roundw
        case rel =>
          refine ⟨j + 1, lq', by go_num, by omega, by rw [HNX.out, List.length_append, HNLL.out, show ints .u64 (L ++ [ca, cb]) = ints .u64 L ++ [.int .u64 ca, .int .u64 cb] by simp [ints]]; exact HR4.out, (HC.out.trans' CB.out).trans HC4.out (fun q hq => .inr (HQ.out q hq)), fun q hqq => ?_⟩
          rcases HQ4.out with rfl | ⟨q', rfl, h1, h2⟩
          · exact HQ.out q hqq
          · simp at hqq; subst hqq
            have := CB.out.size
            have := HC.out.size
            omega
        case measure => simp [intOf]; omega
      · have hbl' : Hid ((ck != 0 && cc == 2) = false) := Lib.hid (by
          rw [Bool.eq_false_iff]; intro h; simp at h; exact hbl h)
        have HNX2 : Hid (kn1 v (j + 1) = L) := Lib.hid (by rw [HNX.out, hbl'.out]; simp)
        clear HNX
        by_cases k0 : ck = 0
        · subst k0
          clear hbl
          go_wp2_with fail
          go_roundw
          case rel => exact ⟨j + 1, lq, by go_num, by omega, by rw [HNX2.out, HNLL.out]; exact HROW.out.ch CA.out (by simp), HC.out.trans' CA.out, HQ.out⟩
          case measure => simp [intOf]; omega
        · have k0' : (ck != 0) = true := by simpa using k0
          have c2' : (cc == 2) = false := by rw [beq_eq_false_iff_ne]; exact fun h => hbl ⟨k0, h⟩
          clear hbl
          go_wp2_with fail
          go_roundw
          case rel => exact ⟨j + 1, lq, by go_num, by omega, by rw [HNX2.out, HNLL.out]; exact HROW.out.ch CA.out (by simp), HC.out.trans' CA.out, HQ.out⟩
          case measure => simp [intOf]; omega
    · obtain rfl : n = j := by omega
      obtain ⟨k0, k4, k5, k6⟩ := KX.out wr hc
      have Z0 : Hid (Row wr 24 1 (.slice al (kn1 v n).length cl) lq (kn2 v 0).length (ints .u64 (kn2 v 0)) ∧ Ch [] W wr ∧ ∀ q ∈ lq, W.heap.size ≤ q) := Lib.hid ⟨by rw [HE1.out]; exact HROW.out, hc, hq⟩
      clear hc hq HROW HC HQ
      generalize (kn1 v n).length = len0 at *
      go_wp2_with fail
      clear k0 k4 k5 k6
      go_loopw [40, 3] (fun i lv wr => ∃ (j : Nat) (lq : List Nat), i = .int .i64 j ∧ j ≤ nl ∧ Row wr 24 1 lv lq (kn2 v j).length (ints .u64 (kn2 v j)) ∧ Ch [] W wr ∧ ∀ q ∈ lq, W.heap.size ≤ q) (fun i _ _ => nl - (intOf i).toNat)
      case atStart => exact ⟨0, lq, rfl, by omega, Z0.out.1, Z0.out.2.1, Z0.out.2.2⟩
      case round =>
        obtain ⟨j, lq, rfl, hj, hrow, hc, hq⟩ := hrel
        clear Z0
        obtain ⟨al, cl, rfl, l1, l2, _⟩ := hrow.rd
        have HROW := Lib.hid hrow
        have HC := Lib.hid hc
        have HQ := Lib.hid hq
        clear hrow
        by_cases hlt : j < nl
        · have hjl : j < v.lanes.length := by rw [HNL.out]; exact hlt
          have ltJ : (j : Int) < nl := by omega
          obtain ⟨b, off, hal, c1, c2, c3⟩ := (HV.out.ch (HC0.out.trans' hc)).lane j hjl
          have hmem := lane_mem hjl
          have hm : (v.lanes.getD j ln0).roots.length ≤ 100000 := by have := rootsN_mem hmem; omega
          have HRR2 := Lib.hid (fun (w6 : World) (h6 : Ch [] w w6) => (HV.out.ch h6).roots j hjl)
          have HNX := Lib.hid (kn2_next v j hjl)
          have hle := HS2.out j
          rw [hal]
          clear hal hmem hjl
          generalize v.lanes.getD j ln0 = x at *
          obtain ⟨xr, xs, xe⟩ := x
          simp only at hm c1 c2 c3 HRR2
          have CA := Lib.hid ((Ch.refl [] wr).alloc (.cells #[.slice (a.la j) xr.length (a.lc j), .bool xs, .bool xe] 71))
          unfold sr at HNX
          simp only at HNX
          generalize hL : kn2 v j = L at *
          have HL := Lib.hid hL
          clear hL hq hc
          generalize hnL : L.length = nL at *
          have HNLL := Lib.hid hnL
          clear hnL
          generalize hxl : xr.length = xl at *
          have HXL := Lib.hid hxl
          clear hxl
          generalize a.la j = xa at *
          generalize a.lc j = xcap at *
          cases xs
          · simp only [Bool.false_eq_true, if_false, List.append_nil] at HNX
            go_wp2_with fail
            go_roundw
            case rel => exact ⟨j + 1, lq, by go_num, by omega, by rw [HNX.out, HNLL.out]; exact HROW.out.ch CA.out (by simp), HC.out.trans' CA.out, HQ.out⟩
            case measure => simp [intOf]; omega
          · simp only [if_true] at HNX
            have HRD := Lib.hid (HRR2.out _ (HC0.out.trans' (HC.out.trans' CA.out))).rd
            have HR1 := Lib.hid (HROW.out.ch CA.out (by simp))
            have H1C := Lib.hid (ints_one .u64 xr)
            go_wp2_with (at_builtin; go_loud (refine wpList_append_list _ rfl _ _ 62 rfl 24 i0 _ 1 8 Tryd.underlying62 hi hz0 hz1 hz2 rfl (by decide) rfl HR1.out xa xl xcap rfl (ints .u64 xr) (by have := HRD.out; rwa [Nat.mul_one]) H1C.out (by unfold maxLen; omega) (by omega) ?_))
            intro v' w6 lq' hr4 hc4 hq4
            obtain ⟨ao5, cap5, rfl, _⟩ := hr4.rd
            have HR4 := Lib.hid hr4
            have HC4 := Lib.hid hc4
            have HQ4 := Lib.hid hq4
            clear hr4 hc4 hq4 c1 c2 c3
            go_wp2_with fail
            go_roundw
            case rel =>
              refine ⟨j + 1, lq', by go_num, by omega, by rw [HNX.out, List.length_append, HNLL.out, HXL.out, show ints .u64 (L ++ xr) = ints .u64 L ++ ints .u64 xr by simp [ints]]; exact HR4.out, (HC.out.trans' CA.out).trans HC4.out (fun q hq => .inr (HQ.out q hq)), fun q hqq => ?_⟩
              rcases HQ4.out with rfl | ⟨q', rfl, h1, h2⟩
              · exact HQ.out q hqq
              · simp at hqq; subst hqq
                have := CA.out.size
                have := HC.out.size
                omega
            case measure => simp [intOf]; omega
        · obtain rfl : nl = j := by omega
          have Z : Hid (Mk1 24 (ints .u64 (knownL v)) (knownL v).length w (.returned (.slice al (kn2 v nl).length cl)) wr) := Lib.hid (by
            rw [← HE2.out]
            have s1 := HC0.out.size
            exact ⟨_, lq, rfl, HROW.out, HC0.out.trans' hc, fun q hq2 => by have := hq q hq2; omega⟩)
          clear hc hq
          generalize (kn2 v nl).length = len1 at *
          go_wp2_with fail
          rw [HRR.out]
          exact Z.out
end Go.Proofs.YtlhhcocdhkbdnaaDoor.Bp
