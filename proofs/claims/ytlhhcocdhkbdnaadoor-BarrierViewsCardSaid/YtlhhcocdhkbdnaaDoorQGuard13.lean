/-
  THE WALK of dappleref13.guarded.
-/
import Derived.Test.YtlhhcocdhkbdnaaDoorQRef13v
import Derived.Test.YtlhhcocdhkbdnaaDoorQGrow
import Derived.Test.YtlhhcocdhkbdnaaDoorQJApp
import Derived.Test.YtlhhcocdhkbdnaaDoorQSrcB
import Derived.Deep.RegionHeld3
set_option linter.unusedVariables false
set_option linter.unusedSimpArgs false
set_option maxRecDepth 100000
namespace Go.Proofs.YtlhhcocdhkbdnaaDoor.L13
open Go.RowKit Go.Proofs.YtlhhcocdhkbdnaaDoor.Wd Go.Proofs.YtlhhcocdhkbdnaaDoor.Hp Go.Proofs.YtlhhcocdhkbdnaaDoor.Gp Go.Proofs.YtlhhcocdhkbdnaaDoor.Sm Go.Proofs.YtlhhcocdhkbdnaaDoor.Gr Go.Proofs.YtlhhcocdhkbdnaaDoor.Bp
def rA (v : Vw) (j : Nat) : List Int := (v.cells.take j).flatMap gw
def rB (v : Vw) (j : Nat) : List Int := rA v v.cells.length ++ (v.globals.drop v.laid.toNat).take j
def rC (v : Vw) (cnt : Ln → Bool) (j : Nat) : List Int := rB v (v.globals.length - v.laid.toNat) ++ (v.lanes.take j).flatMap (lr cnt)
theorem rA_next (v : Vw) (j : Nat) (hj : j < v.cells.length) : rA v (j + 1) = rA v j ++ gw (v.cells.getD j z) := by
  unfold rA; rw [take_snoc v.cells j z hj]; simp
theorem rB_next (v : Vw) (j : Nat) (hj : v.laid.toNat + j < v.globals.length) : rB v (j + 1) = rB v j ++ [v.globals.getD (v.laid.toNat + j) 0] := by
  unfold rB
  rw [take_snoc (v.globals.drop v.laid.toNat) j 0 (by rw [List.length_drop]; omega), List.append_assoc]
  congr 3
  simp [List.getD_eq_getElem?_getD]
theorem rC_next (v : Vw) (cnt : Ln → Bool) (j : Nat) (hj : j < v.lanes.length) : rC v cnt (j + 1) = rC v cnt j ++ lr cnt (v.lanes.getD j ln0) := by
  unfold rC; rw [take_snoc v.lanes j ln0 hj]; simp
theorem rC_all (v : Vw) (cnt : Ln → Bool) : rC v cnt v.lanes.length = srcR v cnt := by
  unfold rC rB rA srcR
  rw [List.take_length, List.take_length, List.take_of_length_le (by rw [List.length_drop]; exact Nat.le_refl _)]
theorem gw_len : ∀ l : List Cel, (l.flatMap gw).length ≤ 2 * l.length
  | [] => by simp
  | x :: l => by
    have := gw_len l
    rw [List.flatMap_cons, List.length_append]
    have h2 : (gw x).length ≤ 2 := by unfold gw; split <;> simp
    simp only [List.length_cons]; omega
theorem rA_len (v : Vw) (j : Nat) : (rA v j).length ≤ 2 * v.cells.length := by
  have := gw_len (v.cells.take j)
  have h2 : (v.cells.take j).length ≤ v.cells.length := by rw [List.length_take]; omega
  unfold rA; omega
theorem rB_len (v : Vw) (j : Nat) : (rB v j).length ≤ 2 * v.cells.length + v.globals.length := by
  have := rA_len v v.cells.length
  unfold rB
  rw [List.length_append, List.length_take, List.length_drop]; omega
theorem rC_len (v : Vw) (cnt : Ln → Bool) (j : Nat) : (rC v cnt j).length ≤ 2 * v.cells.length + v.globals.length + rootsN v.lanes := by
  have := rB_len v (v.globals.length - v.laid.toNat)
  have := lanes_len cnt (v.lanes.take j)
  have := rootsN_take v.lanes j
  unfold rC
  rw [List.length_append]; omega
theorem VOk.srcWordsR {v : Vw} (hk : VOk v) (cnt : Ln → Bool) : ∀ x ∈ srcR v cnt, isWord x v.cells.length = true := fun x hx => hk.srcWords cnt x ((src_mem hk cnt x).1 hx)
theorem VR.srcUR {v : Vw} (hr : VR v) (hk : VOk v) (cnt : Ln → Bool) : ∀ x ∈ srcR v cnt, Gp.u64 x := fun x hx => Bp.VR.srcU hr hk cnt x ((src_mem hk cnt x).1 hx)
theorem bv_same (ms : List Bool) (c : Nat) (hc : c < ms.length) (h : ms.getD c true = false) : (bv ms).toArray.setIfInBounds c (.bool false) = (bv ms).toArray := by
  rw [bv_set]
  congr 2
  apply bools_ext
  · simp
  · intro d hd
    rw [List.length_set] at hd
    by_cases e : d = c
    · subst e; simp [List.getD_eq_getElem?_getD, hc] at h ⊢; rw [h]
    · simp only [List.getD_eq_getElem?_getD, List.getElem?_set_ne (Ne.symm e)]
set_option maxHeartbeats 4000000 in
theorem guarded13_any (w : World) (a : VA) (v : Vw) (run : Bool) (hv : VM w a v) (hr : VR v) (hk : VOk v) (hb : Bnd w) :
    Calls Tryd.prog 86 #[.agg (a.arr v), .bool run] w (WalkPost v.cells.length (walkF v.cells whiteC (srcR v (fun l => run || l.en))) w) := by
  obtain ⟨W, hW⟩ : ∃ W, W = w.alloc (.cells (a.arr v) 65) := ⟨_, rfl⟩
  have C0 : Ch [] w W := by rw [hW]; exact (Ch.refl _ _).alloc _
  have hbx : W.heap[w.heap.size]? = some (.cells (a.arr v) 65 (0, 0)) := by rw [hW]; exact heap_new w _
  obtain ⟨i0, hi, he⟩ := Option.map_eq_some_iff.1 infoWord
  simp only [Prod.mk.injEq] at he
  obtain ⟨hz0, hz1, hz2⟩ := he
  have HBX := Lib.hid hbx
  have KX : Hid (∀ w1 : World, Ch [] W w1 → w1.cell? ⟨w.heap.size, 0, none⟩ = some (.slice a.ac v.cells.length a.cc) ∧ w1.cell? ⟨w.heap.size, 4, none⟩ = some (.slice a.agl v.globals.length a.cgl) ∧ w1.cell? ⟨w.heap.size, 5, none⟩ = some (.int .i64 v.laid) ∧ w1.cell? ⟨w.heap.size, 6, none⟩ = some (.slice a.al v.lanes.length a.cl)) := Lib.hid (fun w1 h1 => by
    have hh := h1.heap HBX.out (by simp)
    unfold VA.arr at hh
    exact ⟨cell_at hh, cell_at hh, cell_at hh, cell_at hh⟩)
  have HC0 := Lib.hid C0
  have HV := Lib.hid hv
  have HR := Lib.hid hr
  have HOK := Lib.hid hk
  have HB := Lib.hid hb
  have n1 := hr.n1
  have n3 := hr.n3
  have n4 := hr.n4
  have n5 := hr.n5
  have hmk : ∀ w : World, _ := fun w => run_make_bools w v.cells.length (by omega)
  obtain ⟨hl0, hl1⟩ := hk.laid
  obtain ⟨cnt, hcnt⟩ : ∃ cnt : Ln → Bool, cnt = (fun l => run || l.en) := ⟨_, rfl⟩
  have HCNT := Lib.hid hcnt
  rw [← hcnt]
  have HRO := Lib.hid (row_ok (hk.wok whiteC whiteC_k _ (VOk.srcWordsR hk cnt)) hr.cells (VR.srcUR hr hk cnt))
  have HLA := Lib.hid (rA_len v)
  have HLB := Lib.hid (rB_len v)
  have HLC := Lib.hid (rC_len v cnt)
  have HE0 : Hid (rA v 0 = []) := Lib.hid (by simp [rA])
  have HE1 : Hid (rB v 0 = rA v v.cells.length) := Lib.hid (by simp [rB])
  have HE2 : Hid (rC v cnt 0 = rB v (v.globals.length - v.laid.toNat)) := Lib.hid (by simp [rC])
  have HE3 := Lib.hid (rC_all v cnt)
  obtain ⟨ld, hld⟩ : ∃ ld : Nat, v.laid = ld := ⟨v.laid.toNat, by omega⟩
  have HLD : Hid (v.laid.toNat = ld) := Lib.hid (by omega)
  unfold VA.arr at hW ⊢
  rw [hld] at KX hl0 hl1 hW ⊢
  obtain ⟨R, hR⟩ : ∃ R, R = WalkPost v.cells.length (walkF v.cells whiteC (srcR v cnt)) w := ⟨_, rfl⟩
  have HRR := Lib.hid hR
  rw [← hR]
  clear hv hr hk hb hbx C0 hR hcnt hld
  generalize hng : v.globals.length = ng at *
  generalize hnl : v.lanes.length = nl at *
  generalize hcl : v.cells.length = n at *
  have HNG := Lib.hid hng
  have HNL := Lib.hid hnl
  have HCL := Lib.hid hcl
  clear hng hnl hcl
  obtain ⟨k0, k4, k5, k6⟩ := KX.out W (Ch.refl _ _)
  go_enter Tryd.func86, Tryd.ntmps86
  go_wp2_with fail
  rw [← hW]
  have HSZ0 : Hid (W.heap.size = w.heap.size + 1) := Lib.hid (by rw [hW, World.size_alloc])
  clear hW k0 k4 k5 k6
  go_loopw [6, 5] (fun i lv wr => ∃ (j : Nat) (lq : List Nat), i = .int .i64 j ∧ j ≤ n ∧ GL W wr lv (rA v j) lq) (fun i _ _ => n - (intOf i).toNat)
  case atStart => exact ⟨0, [], rfl, by omega, by rw [HE0.out]; exact GL.start W⟩
  case round =>
    obtain ⟨j, lq, rfl, hj, hg⟩ := hrel
    obtain ⟨al, cl, rfl, l1, l2, _⟩ := hg.row.rd
    have HG := Lib.hid hg
    have HC := Lib.hid hg.ch
    obtain ⟨k0, k4, k5, k6⟩ := KX.out wr hg.ch
    clear hg
    by_cases hlt : j < n
    · as_aux_lemma =>
      have hjl : j < v.cells.length := by rw [HCL.out]; exact hlt
      have ltJ : (j : Int) < n := by omega
      obtain ⟨bh, offh, hab, _, hjh⟩ := HV.out.cells.2.resolve_left (by omega)
      have HA : Hid (∀ W', Ch [] w W' → ∀ t, t < 4 → W'.cell? ⟨bh, offh + (j * 4 + t), none⟩ = (celV (v.cells.getD j z))[t]?) := Lib.hid (fun W' hcW t ht => by
        have h3 := (hjh (j * 4 + t) (by omega)).trans (flat_get v.cells j t hjl ht)
        rw [List.getElem?_eq_getElem (by simp [celV]; omega)] at h3 ⊢
        exact hcW.cell h3 (by simp))
      have d0 := HA.out wr (HC0.out.trans' HC.out) 0 (by omega)
      have d1 := HA.out wr (HC0.out.trans' HC.out) 1 (by omega)
      have HNX := Lib.hid (rA_next v j (by rw [HCL.out]; exact hlt))
      have hle := HLA.out j
      generalize v.cells.getD j z = y at *
      obtain ⟨ck, cc, ca, cb⟩ := y
      have HA2 : Hid (∀ W', Ch [] w W' → W'.cell? ⟨bh, offh + j * 4 + 2, none⟩ = some (.int .u64 ca)) := Lib.hid (fun W' hc => HA.out W' hc 2 (by omega))
      have HA3 : Hid (∀ W', Ch [] w W' → W'.cell? ⟨bh, offh + j * 4 + 3, none⟩ = some (.int .u64 cb)) := Lib.hid (fun W' hc => HA.out W' hc 3 (by omega))
      have HKX : Hid (∀ w1 : World, Ch [] W w1 → w1.cell? ⟨w.heap.size, 0, none⟩ = some (.slice (some ⟨bh, offh, none⟩) n a.cc)) := Lib.hid (fun w1 h1 => by rw [← hab]; exact (KX.out w1 h1).1)
      simp only [celV, List.getElem?_cons_zero, List.getElem?_cons_succ, Nat.add_zero, ← Nat.add_assoc] at d0 d1
      unfold gw isGrey at HNX
      simp only at HNX
      rw [hab] at k0 ⊢
      clear hab hjh HA hjl k4 k5 k6
      by_cases hgr : ck = 0 ∨ cc ≠ 1
      · have e1 : (ck != 0 && cc == 1) = false := by
          rcases hgr with h | h
          · simp [h]
          · simp [h]
        rw [e1] at HNX
        simp only [Bool.false_eq_true, if_false, List.append_nil] at HNX
        clear e1
        by_cases k00 : ck = 0
        · subst k00
          clear hgr
          go_wp2_with fail
          go_roundw
          case rel => exact ⟨j + 1, lq, by go_num, by omega, by rw [HNX.out]; exact HG.out⟩
          case measure => simp [intOf]; omega
        · have k0' : (ck != 0) = true := by simpa using k00
          have c1' : (cc == 1) = false := by
            have := hgr.resolve_left k00
            simpa using this
          clear hgr k00
          go_wp2_with fail
          go_roundw
          case rel => exact ⟨j + 1, lq, by go_num, by omega, by rw [HNX.out]; exact HG.out⟩
          case measure => simp [intOf]; omega
      · have hk0 : ck ≠ 0 := fun h => hgr (.inl h)
        have hc1 : cc = 1 := Decidable.byContradiction fun h => hgr (.inr h)
        subst hc1
        have k0' : (ck == 0) = false := by simpa using hk0
        have k0n : (ck != 0) = true := by simpa using hk0
        rw [k0n] at HNX
        simp only [Bool.true_and, beq_self_eq_true, if_true] at HNX
        clear hgr hk0
        go_wp2_with fail
        generalize hL : rA v j = L at *
        have HL := Lib.hid hL
        clear hL
        generalize hnL : L.length = nL at *
        have HNLL := Lib.hid hnL
        clear hnL
        have HCWr : Hid (Ch [] w wr) := Lib.hid (HC0.out.trans' HC.out)
        have HG2 := Lib.hid ((HG.out.chg (Ch.refl [] wr).drew).chg ((Ch.refl [] _).alloc (.cells #[.int .u64 ca, .int .u64 cb] 24)))
        have hr1 := HG2.out.row
        rw [HNLL.out] at hr1
        have HR1 := Lib.hid hr1
        have HN2 := Lib.hid (newL (w := wr.drew) (b := wr.heap.size) rfl [.int .u64 ca, .int .u64 cb] 24)
        have FIN : Hid (∀ (w6 : World) (v' : Value) (lq' : List Nat), Row w6 24 1 v' lq' (nL + 2) (ints .u64 L ++ [.int .u64 ca, .int .u64 cb]) → Ch lq (wr.drew.alloc (.cells #[.int .u64 ca, .int .u64 cb] 24)) w6 → (lq' = lq ∨ ∃ q', lq' = [q'] ∧ (wr.drew.alloc (.cells #[.int .u64 ca, .int .u64 cb] 24)).heap.size ≤ q' ∧ q' < w6.heap.size) →
            GL W w6 v' (rA v (j + 1)) lq' ∧ Ch [] w w6 ∧ Ch [] W w6) := Lib.hid (fun w6 v' lq' hr4 hc4 hq4 => by
          have S4 := HG2.out.push (M := [ca, cb]) (by rw [HNLL.out]; exact hr4) hc4 hq4
          rw [HNX.out]
          exact ⟨S4, HC0.out.trans' S4.ch, S4.ch⟩)
        clear hr1 HG2 d0 d1 HNX
        go_region_held3 (fun w' => (w'.cell? ⟨bh, offh + j * 4 + 2, none⟩ = some (.int .u64 ca) ∧ w'.cell? ⟨bh, offh + j * 4 + 3, none⟩ = some (.int .u64 cb)) ∧ w'.cell? ⟨w.heap.size, 0, none⟩ = some (.slice (some ⟨bh, offh, none⟩) n a.cc)) (refine ⟨⟨HA2.out _ ?_, HA3.out _ ?_⟩, HKX.out _ ?_⟩ <;> repeat (first | exact HCWr.out | exact HC.out | exact HCW6.out | exact HCW7.out | apply Ch.drew | apply Ch.alloc))
          (first | (refine step_append_row (by rfl) _ _ 62 (by rfl) 24 i0 (.int .u64 0) 1 8 Tryd.underlying62 hi hz0 hz1 hz2 rfl (by decide) (by rfl) HR1.out ⟨wr.heap.size, 0, none⟩ 2 2 [.int .u64 ca, .int .u64 cb] (by rfl) rfl HN2.out (one2 _ _ _ _) (by unfold maxLen; omega) (by omega) ?_; intro v' w6 lq' hr4 hc4 hq4; have Z4 := FIN.out w6 v' lq' hr4 hc4 hq4; obtain ⟨ao5, cap5, rfl, _⟩ := hr4.rd; have HCW6 := Lib.hid Z4.2.1; have HCW7 := Lib.hid Z4.2.2; have Z5 := Lib.hid Z4.1; have K2 := HA2.out w6 Z4.2.1; have K3 := HA3.out w6 Z4.2.1; have K4 := HKX.out w6 Z4.2.2; clear hr4 hc4 hq4 Z4))
        all_goals
          go_wp2_with fail
          go_roundw
          case rel => exact ⟨j + 1, lq', by go_num, by omega, Z5.out⟩
          case measure => simp [intOf]; omega
    · as_aux_lemma =>
      obtain rfl : n = j := by omega
      have Z0 : Hid (GL W wr (.slice al (rA v n).length cl) (rB v 0) lq) := Lib.hid (by rw [HE1.out]; exact HG.out)
      clear HG HC
      generalize (rA v n).length = len0 at *
      go_wp2_with fail
      clear k0 k4 k5 k6
      go_loopw [7, 5] (fun i lv wr => ∃ (j : Nat) (lq : List Nat), i = .int .i64 ((ld : Int) + j) ∧ ld + j ≤ ng ∧ GL W wr lv (rB v j) lq) (fun i _ _ => ng - (intOf i).toNat)
      case atStart => exact ⟨0, lq, by go_num, by omega, Z0.out⟩
      case round =>
        obtain ⟨j, lq, rfl, hj, hg⟩ := hrel
        obtain ⟨al, cl, rfl, l1, l2, _⟩ := hg.row.rd
        have HG := Lib.hid hg
        have HC := Lib.hid hg.ch
        obtain ⟨k0, k4, k5, k6⟩ := KX.out wr hg.ch
        clear hg Z0
        by_cases hlt : ld + j < ng
        · have hjl : ld + j < v.globals.length := by rw [HNG.out]; exact hlt
          have ltJ : (ld : Int) + (j : Int) < ng := by omega
          obtain ⟨b, off, hag, _, hcg⟩ := HV.out.globals.2.resolve_left (by omega)
          have a1 := (HC0.out.trans' HC.out).cell ((hcg (ld + j) (by omega)).trans (ints_get hjl)) (by simp)
          have hnx := rB_next v j (by rw [HLD.out]; exact hjl)
          rw [HLD.out] at hnx
          have HNX := Lib.hid hnx
          have hle := HLB.out j
          rw [hag] at k4
          rw [hag]
          clear hag hcg hjl hnx k0 k5 k6
          generalize v.globals.getD (ld + j) 0 = g at *
          generalize hL : rB v j = L at *
          have HL := Lib.hid hL
          clear hL
          generalize hnL : L.length = nL at *
          have HNLL := Lib.hid hnL
          clear hnL
          have HG2 := Lib.hid (HG.out.chg ((Ch.refl [] wr).alloc (.cells #[.int .u64 g] 24)))
          have hr1 := HG2.out.row
          rw [HNLL.out] at hr1
          have HR1 := Lib.hid hr1
          have HN2 := Lib.hid (newL (w := wr) (b := wr.heap.size) rfl [.int .u64 g] 24)
          obtain ⟨lj, hlj⟩ : ∃ lj : Nat, lj = ld + j := ⟨_, rfl⟩
          have eJ : (ld : Int) + (j : Int) = (lj : Int) := by omega
          rw [← hlj] at a1
          rw [eJ] at ltJ ⊢
          have HLJ := Lib.hid hlj
          clear hr1 eJ hlj
          go_wp2_with (at_builtin; go_loud (refine wpList_append_row _ rfl _ _ 62 rfl 24 i0 (.int .u64 0) 1 8 Tryd.underlying62 hi hz0 hz1 hz2 rfl (by decide) rfl HR1.out ⟨wr.heap.size, 0, none⟩ 1 1 [.int .u64 g] rfl rfl HN2.out (one1 _ _) (by unfold maxLen; omega) (by omega) ?_))
          intro v' w6 lq' hr4 hc4 hq4
          have Z5 : Hid (GL W w6 v' (rB v (j + 1)) lq') := Lib.hid (by rw [HNX.out]; exact HG2.out.push (M := [g]) (by rw [HNLL.out]; exact hr4) hc4 (by rw [World.size_alloc]; exact hq4))
          obtain ⟨ao5, cap5, rfl, _⟩ := hr4.rd
          clear hr4 hc4 hq4 HG2 HR1 HN2
          go_wp2_with fail
          go_roundw
          case rel => have hlj := HLJ.out; exact ⟨j + 1, lq', by rw [hlj]; go_num, by omega, Z5.out⟩
          case measure => have hlj := HLJ.out; simp [intOf]; omega
        · have Z0 : Hid (GL W wr (.slice al (rB v j).length cl) (rC v cnt 0) lq) := Lib.hid (by
            have : j = ng - ld := by omega
            rw [HE2.out, HLD.out, ← this]; exact HG.out)
          have ltJ : ¬ (ld : Int) + (j : Int) < ng := by omega
          have hle := HLB.out j
          clear HG HC
          generalize (rB v j).length = len1 at *
          go_wp2_with fail
          clear k0 k4 k5 k6
          go_loopw [8, 5] (fun i lv wr => ∃ (j : Nat) (lq : List Nat), i = .int .i64 j ∧ j ≤ nl ∧ GL W wr lv (rC v cnt j) lq) (fun i _ _ => nl - (intOf i).toNat)
          case atStart => exact ⟨0, lq, rfl, by omega, Z0.out⟩
          case round =>
            obtain ⟨j, lq, rfl, hj, hg⟩ := hrel
            obtain ⟨al, cl, rfl, l1, l2, _⟩ := hg.row.rd
            have HG := Lib.hid hg
            have HC := Lib.hid hg.ch
            obtain ⟨k0, k4, k5, k6⟩ := KX.out wr hg.ch
            clear hg Z0
            have hle := HLC.out j
            by_cases hlt : j < nl
            · as_aux_lemma =>
              have hjl : j < v.lanes.length := by rw [HNL.out]; exact hlt
              have ltJ : (j : Int) < nl := by omega
              obtain ⟨b, off, hal, c1, c2, c3⟩ := (HV.out.ch (HC0.out.trans' HC.out)).lane j hjl
              have hm : (v.lanes.getD j ln0).roots.length ≤ 100000 := by have := rootsN_mem (lane_mem hjl); omega
              have HRD := Lib.hid ((HV.out.ch (HC0.out.trans' HC.out)).roots j hjl).rd
              have HNX := Lib.hid (rC_next v cnt j hjl)
              rw [hal] at k6
              rw [hal]
              clear hal hjl k0 k4 k5
              generalize v.lanes.getD j ln0 = x at *
              obtain ⟨xr, xs, xe⟩ := x
              simp only at hm c1 c2 c3 HRD
              have hcx : cnt ⟨xr, xs, xe⟩ = (run || xe) := by rw [HCNT.out]
              unfold lr at HNX
              simp only [hcx] at HNX
              clear hcx
              generalize hL : rC v cnt j = L at *
              have HL := Lib.hid hL
              clear hL
              generalize hnL : L.length = nL at *
              have HNLL := Lib.hid hnL
              clear hnL
              generalize hxl : xr.length = xl at *
              have HXL := Lib.hid hxl
              clear hxl
              generalize a.la j = xa at *
              generalize a.lc j = xcap at *
              have hr1 := HG.out.row
              rw [HNLL.out] at hr1
              have HR1 := Lib.hid hr1
              have H1C := Lib.hid (ints_one .u64 xr)
              clear hr1
              cases xs
              · simp only [Bool.not_false, Bool.true_and] at HNX
                cases run
                · simp only [Bool.false_or] at HNX
                  cases xe
                  · simp only [Bool.false_eq_true, if_false, List.append_nil] at HNX
                    go_wp2_with fail
                    go_roundw
                    case rel => exact ⟨j + 1, lq, by go_num, by omega, by rw [HNX.out]; exact HG.out⟩
                    case measure => simp [intOf]; omega
                  · simp only [if_true] at HNX
                    go_wp2_with (at_builtin; go_loud (refine wpList_append_list _ rfl _ _ 62 rfl 24 i0 _ 1 8 Tryd.underlying62 hi hz0 hz1 hz2 rfl (by decide) rfl HR1.out xa xl xcap rfl (ints .u64 xr) (by have := HRD.out; rwa [Nat.mul_one]) H1C.out (by unfold maxLen; omega) (by omega) ?_))
                    intro v' w6 lq' hr4 hc4 hq4
                    have Z5 : Hid (GL W w6 v' (rC v cnt (j + 1)) lq') := Lib.hid (by rw [HNX.out]; exact HG.out.push (M := xr) (by rw [HNLL.out, HXL.out]; exact hr4) hc4 hq4)
                    obtain ⟨ao5, cap5, rfl, _⟩ := hr4.rd
                    clear hr4 hc4 hq4 HR1
                    go_wp2_with fail
                    go_roundw
                    case rel => exact ⟨j + 1, lq', by go_num, by omega, Z5.out⟩
                    case measure => simp [intOf]; omega
                · simp only [Bool.true_or, if_true] at HNX
                  go_wp2_with (at_builtin; go_loud (refine wpList_append_list _ rfl _ _ 62 rfl 24 i0 _ 1 8 Tryd.underlying62 hi hz0 hz1 hz2 rfl (by decide) rfl HR1.out xa xl xcap rfl (ints .u64 xr) (by have := HRD.out; rwa [Nat.mul_one]) H1C.out (by unfold maxLen; omega) (by omega) ?_))
                  intro v' w6 lq' hr4 hc4 hq4
                  have Z5 : Hid (GL W w6 v' (rC v cnt (j + 1)) lq') := Lib.hid (by rw [HNX.out]; exact HG.out.push (M := xr) (by rw [HNLL.out, HXL.out]; exact hr4) hc4 hq4)
                  obtain ⟨ao5, cap5, rfl, _⟩ := hr4.rd
                  clear hr4 hc4 hq4 HR1
                  go_wp2_with fail
                  go_roundw
                  case rel => exact ⟨j + 1, lq', by go_num, by omega, Z5.out⟩
                  case measure => simp [intOf]; omega
              · simp only [Bool.not_true, Bool.false_and, Bool.false_eq_true, if_false, List.append_nil] at HNX
                go_wp2_with fail
                go_roundw
                case rel => exact ⟨j + 1, lq, by go_num, by omega, by rw [HNX.out]; exact HG.out⟩
                case measure => simp [intOf]; omega
            · as_aux_lemma =>
              have hjn : j = nl := by omega
              have ltJ : ¬ (j : Int) < nl := by omega
              have e0 : rC v cnt j = srcR v cnt := by rw [hjn]; exact HE3.out
              rw [e0] at HG hle ⊢
              clear e0
              obtain ⟨ws, hws⟩ : ∃ ws, ws = srcR v cnt := ⟨_, rfl⟩
              rw [← hws] at HG HRR HRO hle ⊢
              have CA : Ch [] wr (wr.alloc (.cells (bv (List.replicate n false)).toArray 4)) := (Ch.refl _ _).alloc _
              have HB1 := heap_new wr (.cells (bv (List.replicate n false)).toArray 4)
              have hsz := HG.out.ch.size
              obtain ⟨m, hwl⟩ : ∃ m, m = ws.length := ⟨_, rfl⟩
              have HWL := Lib.hid hwl.symm
              have S0 : Hid (WSt W wr.heap.size (wr.alloc (.cells (bv (List.replicate n false)).toArray 4)) (.slice al m cl) (wkK v.cells whiteC ws 0) lq) := Lib.hid ⟨by have := (HG.out.chg CA).row; simp only [wkK]; rw [hwl]; exact this, by simp only [wkK]; rw [HCL.out]; exact HB1, (HG.out.chg CA).ch, fun q hq => by have := HG.out.fr q hq; rw [World.size_alloc]; omega, hsz⟩
              rw [← hwl] at hle ⊢
              clear HB1 CA hjn HG hsz HLA HLB HLC HE0 HE1 HE2 HE3 hws hwl HSZ0 HC
              go_wp2_with fail
              clear k0 k4 k5 k6
              generalize wr.heap.size = mb at *
              go_loopw [10, 5] (fun i lv wr => ∃ (k : Nat) (lq : List Nat), i = .int .i64 k ∧ k ≤ (wkK v.cells whiteC ws k).2.length ∧ WSt W mb wr lv (wkK v.cells whiteC ws k) lq) (fun i _ _ => m + 2 * n - (intOf i).toNat)
              case atStart => exact ⟨0, lq, rfl, by omega, S0.out⟩
              case round =>
                obtain ⟨k, lq, rfl, hk, hst⟩ := hrel
                have HCW := Lib.hid hst.ch
                clear S0
                have hinv := wkK_inv v.cells whiteC ws k
                have hle2 := hinv.le
                rw [HWL.out, HCL.out] at hle2
                obtain ⟨al, cl, rfl, l1, l2, l3⟩ := hst.row.rd
                by_cases hlt : k < (wkK v.cells whiteC ws k).2.length
                · as_aux_lemma =>
                  obtain ⟨x, hx⟩ : ∃ x, (wkK v.cells whiteC ws k).2[k]? = some x := ⟨_, List.getElem?_eq_getElem hlt⟩
                  obtain ⟨hxu, hxc⟩ := HRO.out k x (List.mem_of_getElem? hx)
                  have NX := Lib.hid (wkK_next hx)
                  obtain ⟨b, off, rfl, hj⟩ := l3.2.resolve_left (by omega)
                  have a1 := hj k (by omega)
                  rw [show (ints .u64 (wkK v.cells whiteC ws k).2)[k]? = some (.int .u64 x) by simp [ints, hx]] at a1
                  have CC := Rd.Cell_any wr x hxu.1 hxu.2
                  have hrg := cellN_range x
                  have HST := Lib.hid hst
                  have ltI : (k : Int) < (wkK v.cells whiteC ws k).2.length := by omega
                  have HLE := Lib.hid hle2
                  have HLN : Hid ((wkK v.cells whiteC ws k).1.length = n) := Lib.hid (by rw [hinv.len, HCL.out])
                  have HK : Hid (k + 1 ≤ (wkK v.cells whiteC ws (k + 1)).2.length) := Lib.hid (by
                    rw [NX.out]
                    obtain ⟨t, ht⟩ := cstep_pre v.cells whiteC (wkK v.cells whiteC ws k) x
                    rw [ht, List.length_append]; omega)
                  have hnl' : (wkK v.cells whiteC ws k).2.length ≤ 1500000 := by omega
                  clear hxu hx hj l3 hst hinv
                  generalize hs : wkK v.cells whiteC ws k = s at *
                  have HS := Lib.hid hs
                  clear hs
                  obtain ⟨ms, L⟩ := s
                  simp only at l1 ltI hlt hnl' a1
                  generalize hnl2 : L.length = nL at *
                  have HNLL := Lib.hid hnl2
                  clear hnl2 hk
                  unfold cstep at NX
                  simp only at NX
                  cases href : isRef x
                  · rw [href] at CC NX
                    simp only [Bool.false_and, Bool.false_eq_true, if_false] at NX
                    clear href hrg hxc
                    generalize cellN x = cv at *
                    go_wp2_with fail
                    refine CC.mono ?_
                    rintro e w3 ⟨rfl, rfl⟩
                    clear CC
                    go_wp2_with fail
                    go_roundw
                    case rel => exact ⟨k + 1, lq, by go_num, HK.out, by rw [NX.out]; exact HST.out⟩
                    case measure => have := HLE.out; simp [intOf]; omega
                  · rw [href] at CC NX
                    have hcn := hxc href
                    obtain ⟨c, hc⟩ : ∃ c : Nat, c = (cellN x).toNat := ⟨_, rfl⟩
                    have hcv : cellN x = (c : Int) := by omega
                    rw [← hc] at hcn
                    rw [← hc] at NX
                    rw [hcv] at CC
                    simp only [Bool.true_and] at NX
                    have b1 := cell_at (i := c) HST.out.met
                    rw [List.getElem?_toArray, bv_at _ _ (by rw [show ms.length = n from HLN.out]; exact hcn)] at b1
                    have b2 := free_at (i := c) HST.out.met
                    have ltC : (c : Int) < n := by omega
                    have hch : c < v.cells.length := by rw [HCL.out]; exact hcn
                    clear href hxc hc hcv hrg
                    cases hb : ms.getD c true
                    · rw [hb] at b1 NX
                      simp only [Bool.not_false, Bool.true_and] at NX
                      obtain ⟨bh, offh, hab, hbhn, hjh⟩ := HV.out.cells.2.resolve_left (by omega)
                      have HA : Hid (∀ W', Ch [] w W' → ∀ t, t < 4 → W'.cell? ⟨bh, offh + (c * 4 + t), none⟩ = (celV (v.cells.getD c z))[t]?) := Lib.hid (fun W' hcW t ht => by
                        have h3 := (hjh (c * 4 + t) (by omega)).trans (flat_get v.cells c t hch ht)
                        rw [List.getElem?_eq_getElem (by simp [celV]; omega)] at h3 ⊢
                        exact hcW.cell h3 (by simp))
                      have d0 := HA.out wr (HC0.out.trans' HST.out.ch) 0 (by omega)
                      have d1 := HA.out wr (HC0.out.trans' HST.out.ch) 1 (by omega)
                      have d2 := HA.out wr (HC0.out.trans' HST.out.ch) 2 (by omega)
                      have d3 := HA.out wr (HC0.out.trans' HST.out.ch) 3 (by omega)
                      generalize v.cells.getD c z = y at *
                      obtain ⟨ck, cc, ca, cb⟩ := y
                      have HA2 : Hid (∀ W', Ch [] w W' → W'.cell? ⟨bh, offh + c * 4 + 2, none⟩ = some (.int .u64 ca)) := Lib.hid (fun W' hc => HA.out W' hc 2 (by omega))
                      have HA3 : Hid (∀ W', Ch [] w W' → W'.cell? ⟨bh, offh + c * 4 + 3, none⟩ = some (.int .u64 cb)) := Lib.hid (fun W' hc => HA.out W' hc 3 (by omega))
                      simp only [celV, List.getElem?_cons_zero, List.getElem?_cons_succ, Nat.add_zero, ← Nat.add_assoc] at d0 d1 d2 d3
                      have WH := white13_any wr ck cc ca cb
                      have k0 := (KX.out wr HCW.out).1
                      have HKX : Hid (∀ w1 : World, Ch [] W w1 → w1.cell? ⟨w.heap.size, 0, none⟩ = some (.slice (some ⟨bh, offh, none⟩) n a.cc)) := Lib.hid (fun w1 h1 => by rw [← hab]; exact (KX.out w1 h1).1)
                      have HSAME := Lib.hid (bv_same ms c (by rw [show ms.length = n from HLN.out]; exact hcn) hb)
                      rw [hab] at k0 ⊢
                      clear hb hbhn hjh hab HA hch hcn
                      cases hw : whiteC ⟨ck, cc, ca, cb⟩
                      · as_aux_lemma =>
                        rw [hw] at WH NX
                        simp only [Bool.false_eq_true, if_false] at NX
                        clear hw
                        go_wp2_with fail
                        refine CC.mono ?_
                        rintro e w3 ⟨rfl, rfl⟩
                        clear CC
                        go_wp2_with fail
                        refine WH.mono ?_
                        rintro e w4 ⟨rfl, h4⟩
                        have S1 := HST.out.chg h4
                        have f1 := cell_at (i := c) S1.met
                        rw [show (bv ms).toArray[c]? = some (.bool false) by have := h4.cell b1 (by simp); rw [cell_at S1.met] at this; exact this] at f1
                        have f2 := free_at (i := c) S1.met
                        have hst5 := heap_set (i := c) S1.met (.bool false)
                        have g1 := cell_at (i := c) hst5
                        rw [HSAME.out] at hst5
                        have S5 : Hid (WSt W mb (w4.setCell ⟨mb, c, none⟩ (.bool false)) (.slice (some ⟨b, off, none⟩) nL cl) (ms, L) lq) := Lib.hid ⟨S1.row.keep (fun q hq o ho => (heap_set_ne (S1.lo q hq).2.2).trans ho), hst5, S1.ch.setCell _ _ (.inr S1.mo), fun q hq => by have := S1.lo q hq; simpa [World.setCell] using this, S1.mo⟩
                        have g2 := cell_at (i := c) hst5
                        rw [show (bv ms).toArray[c]? = some (.bool false) by have := h4.cell b1 (by simp); rw [cell_at S1.met] at this; exact this] at g2
                        clear WH h4 b1 b2 d0 d1 d2 d3 k0 a1 S1 hst5 g1
                        go_wp2_with fail
                        go_roundw
                        case rel => exact ⟨k + 1, lq, by go_num, HK.out, by rw [NX.out]; exact S5.out⟩
                        case measure => have := HLE.out; simp [intOf]; omega
                      · as_aux_lemma =>
                        rw [hw] at WH NX
                        simp only [if_true] at NX
                        clear hw
                        go_wp2_with fail
                        refine CC.mono ?_
                        rintro e w3 ⟨rfl, rfl⟩
                        clear CC
                        go_wp2_with fail
                        refine WH.mono ?_
                        rintro e w4 ⟨rfl, h4⟩
                        have S1 := HST.out.chg h4
                        have f1 := h4.cell b1 (by simp)
                        have f2 := free_at (i := c) S1.met
                        have S2 := S1.setMet c
                        have HCW4 : Hid (Ch [] W (w4.setCell ⟨mb, c, none⟩ (.bool true))) := Lib.hid S2.ch
                        have g2 := cell_at (i := c) S2.met
                        rw [List.getElem?_toArray, bv_at _ _ (by rw [List.length_set, show ms.length = n from HLN.out]; omega), show (ms.set c true).getD c true = true by rw [getD_setB _ _ _ (by rw [show ms.length = n from HLN.out]; omega), if_pos rfl]] at g2
                        have HS2 := Lib.hid S2
                        clear WH h4 b1 b2 d0 d1 d2 d3 k0 a1 S1 S2
                        go_wp2_with fail
                        generalize hw5 : w4.setCell ⟨mb, c, none⟩ (.bool true) = w5 at *
                        have S3 := Lib.hid ((HS2.out.chg ((Ch.refl [] w5).drew)).chg ((Ch.refl [] _).alloc (.cells #[.int .u64 ca, .int .u64 cb] 24)))
                        have HCW5 := Lib.hid (HC0.out.trans' HS2.out.ch)
                        have HN2 := Lib.hid (newL (w := w5.drew) (b := w5.heap.size) rfl [.int .u64 ca, .int .u64 cb] 24)
                        have hrow := S3.out.row
                        simp only at hrow
                        rw [HNLL.out] at hrow
                        have HROW := Lib.hid hrow
                        have FIN : Hid (∀ (w6 : World) (v' : Value) (lq' : List Nat), Row w6 24 1 v' lq' (nL + 2) (ints .u64 L ++ [.int .u64 ca, .int .u64 cb]) → Ch lq (w5.drew.alloc (.cells #[.int .u64 ca, .int .u64 cb] 24)) w6 → (lq' = lq ∨ ∃ q', lq' = [q'] ∧ (w5.drew.alloc (.cells #[.int .u64 ca, .int .u64 cb] 24)).heap.size ≤ q' ∧ q' < w6.heap.size) →
                            WSt W mb w6 v' (wkK v.cells whiteC ws (k + 1)) lq' ∧ Ch [] w w6 ∧ Ch [] W w6) := Lib.hid (fun w6 v' lq' hr4 hc4 hq4 => by
                          have S4 := S3.out.pushL (M := [ca, cb]) (by rw [HNLL.out]; exact hr4) hc4 hq4
                          rw [NX.out]
                          exact ⟨S4, HC0.out.trans' S4.ch, S4.ch⟩)
                        clear S3 hrow hw5 f1 f2 NX HS HST HRO HCW HLN HS2 HSAME g2
                        go_region_held3 (fun w' => (w'.cell? ⟨bh, offh + c * 4 + 2, none⟩ = some (.int .u64 ca) ∧ w'.cell? ⟨bh, offh + c * 4 + 3, none⟩ = some (.int .u64 cb)) ∧ w'.cell? ⟨w.heap.size, 0, none⟩ = some (.slice (some ⟨bh, offh, none⟩) n a.cc)) (refine ⟨⟨HA2.out _ ?_, HA3.out _ ?_⟩, HKX.out _ ?_⟩ <;> repeat (first | exact HCW5.out | exact HCW4.out | exact HCW6.out | exact HCW7.out | apply Ch.drew | apply Ch.alloc))
                          (first | (refine step_append_row (by rfl) _ _ 62 (by rfl) 24 i0 (.int .u64 0) 1 8 Tryd.underlying62 hi hz0 hz1 hz2 rfl (by decide) (by rfl) HROW.out ⟨w5.heap.size, 0, none⟩ 2 2 [.int .u64 ca, .int .u64 cb] (by rfl) rfl HN2.out (one2 _ _ _ _) (by unfold maxLen; omega) (by omega) ?_; intro v' w6 lq' hr4 hc4 hq4; have Z4 := FIN.out w6 v' lq' hr4 hc4 hq4; obtain ⟨ao5, cap5, rfl, _⟩ := hr4.rd; have HCW6 := Lib.hid Z4.2.1; have HCW7 := Lib.hid Z4.2.2; have Z5 := Lib.hid Z4.1; have K2 := HA2.out w6 Z4.2.1; have K3 := HA3.out w6 Z4.2.1; have K4 := HKX.out w6 Z4.2.2; clear hr4 hc4 hq4 Z4))
                        all_goals
                          go_wp2_with fail
                          go_roundw
                          case rel => exact ⟨k + 1, lq', by go_num, HK.out, Z5.out⟩
                          case measure => have := HLE.out; simp [intOf]; omega
                    · rw [hb] at b1 NX
                      simp only [Bool.not_true, Bool.false_and, Bool.false_eq_true, if_false] at NX
                      clear hb hch hcn
                      go_wp2_with fail
                      refine CC.mono ?_
                      rintro e w3 ⟨rfl, rfl⟩
                      clear CC
                      go_wp2_with fail
                      go_roundw
                      case rel => exact ⟨k + 1, lq, by go_num, HK.out, by rw [NX.out]; exact HST.out⟩
                      case measure => have := HLE.out; simp [intOf]; omega
                · have hend := wkK_end (h := v.cells) (cnt := whiteC) (src := ws) (k := k) (by omega)
                  have ltI : ¬ (k : Int) < (wkK v.cells whiteC ws k).2.length := by omega
                  have Z : Hid (WalkPost n (walkF v.cells whiteC ws) w (.returned (.slice (some ⟨mb, 0, none⟩) n n)) wr) := Lib.hid ⟨_, rfl, by rw [← hend]; exact hst.met, HC0.out.trans' hst.ch, Nat.le_trans HC0.out.size hst.mo⟩
                  clear hst l3 hinv hend
                  generalize (wkK v.cells whiteC ws k).2.length = len at *
                  go_wp2_with fail
                  rw [HRR.out]
                  exact Z.out
end Go.Proofs.YtlhhcocdhkbdnaaDoor.L13
