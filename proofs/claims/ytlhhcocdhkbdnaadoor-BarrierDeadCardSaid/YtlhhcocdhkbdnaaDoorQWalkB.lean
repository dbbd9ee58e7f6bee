/-
  THE WALK of barrier.walk, for each function that it is handed. (Written by wip/gen_walkb.py.)
-/
import Derived.Test.YtlhhcocdhkbdnaaDoorQClone
import Derived.Deep.RegionHeld3
set_option linter.unusedVariables false
set_option linter.unusedSimpArgs false
set_option maxRecDepth 100000
namespace Go.Proofs.YtlhhcocdhkbdnaaDoor.Bp
open Go.RowKit Go.Proofs.YtlhhcocdhkbdnaaDoor.Wd Go.Proofs.YtlhhcocdhkbdnaaDoor.Hp Go.Proofs.YtlhhcocdhkbdnaaDoor.Gp Go.Proofs.YtlhhcocdhkbdnaaDoor.Sm Go.Proofs.YtlhhcocdhkbdnaaDoor.Gr
/-- The words of cells that count name cells. -/
def WOk (h : List Cel) (cnt : Cel → Bool) (src : List Int) : Prop := (∀ x ∈ src, isRef x = true → (cellN x).toNat < h.length) ∧ ∀ d, d < h.length → cnt (h.getD d z) = true → ∀ x, (x = (h.getD d z).a ∨ x = (h.getD d z).b) → isRef x = true → (cellN x).toNat < h.length
theorem row_ok {h : List Cel} {cnt : Cel → Bool} {src : List Int} (hk : WOk h cnt src) (hh : ∀ x ∈ h, InR x) (hu : ∀ x ∈ src, Gp.u64 x) (k : Nat) : ∀ x ∈ (wkK h cnt src k).2, Gp.u64 x ∧ (isRef x = true → (cellN x).toNat < h.length) := by
  intro x hx
  rcases (wkK_snd h cnt src k).row x hx with h1 | ⟨d, h1, h2⟩
  · exact ⟨hu x h1, hk.1 x h1⟩
  · refine ⟨?_, hk.2 d h1.lt h1.cnt x h2⟩
    obtain ⟨_, _, _, _, h5, h6⟩ := InR.at hh d h1.lt
    rcases h2 with rfl | rfl
    · exact h5
    · exact h6
/-- What walk answers. -/
def WalkPost (n : Nat) (bs : List Bool) (w : World) (en : Ending) (w' : World) : Prop :=
  ∃ mb : Nat, en = .returned (.slice (some ⟨mb, 0, none⟩) n n) ∧ w'.heap[mb]? = some (.cells (bv bs).toArray 4 (0, 0)) ∧ Ch [] w w' ∧ w.heap.size ≤ mb
set_option maxHeartbeats 4000000 in
theorem walkW_any (w : World) (a : VA) (v : Vw) (aw : Option Addr) (m cw : Nat) (ws : List Int) (hm : m ≤ 1000000) (hv : VM w a v) (hr : VR v) (hrw : RdF w aw m (ints .u64 ws) []) (hu : ∀ x ∈ ws, Gp.u64 x) (hk : WOk v.cells whiteC ws) (hb : Bnd w) :
    Calls Tryd.prog 70 #[.agg (a.arr v), .slice aw m cw, .func (.func 74) #[] #[]] w (WalkPost v.cells.length (walkF v.cells whiteC ws) w) := by
  obtain ⟨W, hW⟩ : ∃ W, W = w.alloc (.cells (a.arr v) 65) := ⟨_, rfl⟩
  have C0 : Ch [] w W := by rw [hW]; exact (Ch.refl _ _).alloc _
  have hbx : W.heap[w.heap.size]? = some (.cells (a.arr v) 65 (0, 0)) := by rw [hW]; exact heap_new w _
  have hwl : ws.length = m := by simpa [ints] using hrw.1
  have n1 := hr.n1
  have hmk : ∀ w : World, _ := fun w => run_make_bools w v.cells.length (by omega)
  obtain ⟨i0, hi, he⟩ := Option.map_eq_some_iff.1 infoWord
  simp only [Prod.mk.injEq] at he
  obtain ⟨hz0, hz1, hz2⟩ := he
  obtain ⟨W1, hW1⟩ : ∃ W1, W1 = W.alloc (.cells (bv (List.replicate v.cells.length false)).toArray 4) := ⟨_, rfl⟩
  have C1 : Ch [] W W1 := by rw [hW1]; exact (Ch.refl _ _).alloc _
  have hm1 : W1.heap[W.heap.size]? = some (.cells (bv (List.replicate v.cells.length false)).toArray 4 (0, 0)) := by rw [hW1]; exact heap_new W _
  have CL := Clone_any W1 aw m cw ws hm (hrw.ch (T' := []) (C0.trans' C1) (by simp))
  have HBX := Lib.hid hbx
  have KX : Hid (∀ w1 : World, Ch [] W w1 → w1.cell? ⟨w.heap.size, 0, none⟩ = some (.slice a.ac v.cells.length a.cc)) := Lib.hid (fun w1 h1 => by
    have hh := h1.heap HBX.out (by simp)
    unfold VA.arr at hh
    exact cell_at hh)
  have k0 := KX.out W (Ch.refl _ _)
  have k1 := KX.out W1 C1
  have HCEL := Lib.hid hv.cells
  have HC0 := Lib.hid C0
  have HC1 := Lib.hid C1
  have HM1 := Lib.hid hm1
  have HRO := Lib.hid (row_ok hk hr.cells hu)
  have HIN := Lib.hid hr.cells
  have HB := Lib.hid hb
  have HWL := Lib.hid hwl
  have HSZ1 : Hid (W1.heap.size = W.heap.size + 1) := Lib.hid (by rw [hW1, World.size_alloc])
  have HSZ0 : Hid (W.heap.size = w.heap.size + 1) := Lib.hid (by rw [hW, World.size_alloc])
  unfold VA.arr at hW ⊢
  clear hv hr hrw hu hk hb hbx C0 C1 hm1 hwl
  generalize hn : v.cells.length = n at *
  have HN := Lib.hid hn
  obtain ⟨R, hR⟩ : ∃ R, R = WalkPost n (walkF v.cells whiteC ws) w := ⟨_, rfl⟩
  have HRR := Lib.hid hR
  rw [← hR]
  clear hn hR
  go_enter Tryd.func70, Tryd.ntmps70
  go_wp2_with fail
  rw [← hW]
  unfold Mk2 at CL
  generalize hsz : w.heap.size + 1 = wsz
  have e1 : wsz = W.heap.size := by rw [← hsz]; exact HSZ0.out.symm
  subst e1
  clear hsz
  rw [← hW1]
  have HW := Lib.hid hW
  have HW1 := Lib.hid hW1
  clear hW hW1
  refine CL.mono ?_
  rintro e w2 ⟨lv, lq, rfl, g1, g2, g3⟩
  have S0 : Hid (WSt W W.heap.size w2 lv (List.replicate n false, ws) lq) := Lib.hid ⟨by rw [HWL.out]; exact g1, g2.heap HM1.out (by simp), HC1.out.trans' g2, fun q hq => by
    have h1 := g3 q hq
    have h3 := HSZ1.out
    omega, Nat.le_refl _⟩
  have Z2 := Lib.hid (HC1.out.trans' g2)
  obtain ⟨a1, c1, rfl, _⟩ := g1.rd
  clear CL g1 g2 g3 k0 k1
  go_wp2_with fail
  go_loopw [9, 8] (fun i lv wr => ∃ (k : Nat) (lq : List Nat), i = .int .i64 k ∧ k ≤ (wkK v.cells whiteC ws k).2.length ∧ WSt W W.heap.size wr lv (wkK v.cells whiteC ws k) lq ∧ Ch [] W wr) (fun i _ _ => m + 2 * n - (intOf i).toNat)
  case atStart => exact ⟨0, lq, rfl, by simp, by have := S0.out; rw [← HN.out] at this; exact this, Z2.out⟩
  case round =>
    obtain ⟨k, lq, rfl, hk, hst, hcW⟩ := hrel
    clear S0 Z2
    have hinv := wkK_inv v.cells whiteC ws k
    have hle := hinv.le
    rw [HWL.out, HN.out] at hle
    obtain ⟨al, cl, rfl, l1, l2, l3⟩ := hst.row.rd
    by_cases hlt : k < (wkK v.cells whiteC ws k).2.length
    · obtain ⟨x, hx⟩ : ∃ x, (wkK v.cells whiteC ws k).2[k]? = some x := ⟨_, List.getElem?_eq_getElem hlt⟩
      obtain ⟨hxu, hxc⟩ := HRO.out k x (List.mem_of_getElem? hx)
      have NX := Lib.hid (wkK_next hx)
      obtain ⟨b, off, rfl, hj⟩ := l3.2.resolve_left (by omega)
      have a1 := hj k (by omega)
      rw [show (ints .u64 (wkK v.cells whiteC ws k).2)[k]? = some (.int .u64 x) by simp [ints, hx]] at a1
      have CC := Wd.Cell_any wr x hxu.1 hxu.2 (Bnd.ch HB.out (HC0.out.trans' hst.ch) (by simp))
      have hrg := cellN_range x
      have HST := Lib.hid hst
      have HCW := Lib.hid hcW
      have ltI : (k : Int) < (wkK v.cells whiteC ws k).2.length := by omega
      have HLE := Lib.hid hle
      have HLN : Hid ((wkK v.cells whiteC ws k).1.length = n) := Lib.hid (by rw [hinv.len, HN.out])
      have HK : Hid (k + 1 ≤ (wkK v.cells whiteC ws (k + 1)).2.length) := Lib.hid (by
        rw [NX.out]
        obtain ⟨t, ht⟩ := cstep_pre v.cells whiteC (wkK v.cells whiteC ws k) x
        rw [ht, List.length_append]; omega)
      have hnl' : (wkK v.cells whiteC ws k).2.length ≤ 1500000 := by omega
      clear hxu hx hj l3 hst hinv hcW
      generalize hs : wkK v.cells whiteC ws k = s at *
      have HS := Lib.hid hs
      clear hs
      obtain ⟨ms, L⟩ := s
      simp only at l1 ltI hlt hnl' a1
      generalize hnl : L.length = nl at *
      have HNL := Lib.hid hnl
      clear hnl hk
      unfold cstep at NX
      simp only at NX
      cases href : isRef x
      · rw [href] at CC NX
        simp only [Bool.false_and, Bool.false_eq_true, if_false] at NX
        clear href hrg hxc
        generalize cellN x = cv at *
        go_wp2_with fail
        refine CC.mono ?_
        rintro e w3 ⟨rfl, rfl⟩
        clear CC
        go_wp2_with fail
        go_roundw
        case rel => exact ⟨k + 1, lq, by go_num, HK.out, by rw [NX.out]; exact HST.out, HCW.out⟩
        case measure => have := HLE.out; simp [intOf]; omega
      · rw [href] at CC NX
        have hcn := hxc href
        obtain ⟨c, hc⟩ : ∃ c : Nat, c = (cellN x).toNat := ⟨_, rfl⟩
        have hcv : cellN x = (c : Int) := by omega
        rw [← hc] at hcn
        rw [← hc] at NX
        rw [hcv] at CC
        simp only [Bool.true_and] at NX
        have b1 := cell_at (i := c) HST.out.met
        rw [List.getElem?_toArray, bv_at _ _ (by rw [show ms.length = n from HLN.out]; exact hcn)] at b1
        have b2 := free_at (i := c) HST.out.met
        have ltC : (c : Int) < n := by omega
        have hch : c < v.cells.length := by rw [HN.out]; exact hcn
        clear href hxc hc hcv hrg
        cases hb : ms.getD c true
        · rw [hb] at b1 NX
          simp only [Bool.not_false, Bool.true_and] at NX
          obtain ⟨bh, offh, hab, hbhn, hjh⟩ := HCEL.out.2.resolve_left (by omega)
          have HA : Hid (∀ W', Ch [] w W' → ∀ t, t < 4 → W'.cell? ⟨bh, offh + (c * 4 + t), none⟩ = (celV (v.cells.getD c z))[t]?) := Lib.hid (fun W' hcW t ht => by
            have h3 := (hjh (c * 4 + t) (by omega)).trans (flat_get v.cells c t hch ht)
            rw [List.getElem?_eq_getElem (by simp [celV]; omega)] at h3 ⊢
            exact hcW.cell h3 (by simp))
          have d0 := HA.out wr (HC0.out.trans' HST.out.ch) 0 (by omega)
          have d1 := HA.out wr (HC0.out.trans' HST.out.ch) 1 (by omega)
          have d2 := HA.out wr (HC0.out.trans' HST.out.ch) 2 (by omega)
          have d3 := HA.out wr (HC0.out.trans' HST.out.ch) 3 (by omega)
          generalize v.cells.getD c z = y at *
          obtain ⟨ck, cc, ca, cb⟩ := y
          have HA2 : Hid (∀ W', Ch [] w W' → W'.cell? ⟨bh, offh + c * 4 + 2, none⟩ = some (.int .u64 ca)) := Lib.hid (fun W' hc => HA.out W' hc 2 (by omega))
          have HA3 : Hid (∀ W', Ch [] w W' → W'.cell? ⟨bh, offh + c * 4 + 3, none⟩ = some (.int .u64 cb)) := Lib.hid (fun W' hc => HA.out W' hc 3 (by omega))
          simp only [celV, List.getElem?_cons_zero, List.getElem?_cons_succ, Nat.add_zero, ← Nat.add_assoc] at d0 d1 d2 d3
          have WH := white_any wr ck cc ca cb
          have k0 := KX.out wr HCW.out
          have HKX : Hid (∀ w1 : World, Ch [] W w1 → w1.cell? ⟨w.heap.size, 0, none⟩ = some (.slice (some ⟨bh, offh, none⟩) n a.cc)) := Lib.hid (fun w1 h1 => by rw [← hab]; exact KX.out w1 h1)
          rw [hab] at k0 ⊢
          clear hb hbhn hjh hab HA hch hcn
          cases hw : whiteC ⟨ck, cc, ca, cb⟩
          · rw [hw] at WH NX
            simp only [Bool.false_eq_true, if_false] at NX
            clear hw
            go_wp2_with fail
            refine CC.mono ?_
            rintro e w3 ⟨rfl, rfl⟩
            clear CC
            go_wp2_with fail
            refine WH.mono ?_
            rintro e w4 ⟨rfl, h4⟩
            have H4 := Lib.hid h4
            clear WH h4
            go_wp2_with fail
            go_roundw
            case rel => exact ⟨k + 1, lq, by go_num, HK.out, by rw [NX.out]; exact HST.out.chg H4.out, HCW.out.trans' H4.out⟩
            case measure => have := HLE.out; simp [intOf]; omega
          · rw [hw] at WH NX
            simp only [if_true] at NX
            clear hw
            go_wp2_with fail
            refine CC.mono ?_
            rintro e w3 ⟨rfl, rfl⟩
            clear CC
            go_wp2_with fail
            refine WH.mono ?_
            rintro e w4 ⟨rfl, h4⟩
            have S1 := HST.out.chg h4
            have f1 := h4.cell b1 (by simp)
            have f2 := free_at (i := c) S1.met
            have S2 := S1.setMet c
            have HCW4 : Hid (Ch [] W (w4.setCell ⟨W.heap.size, c, none⟩ (.bool true))) := Lib.hid ((HCW.out.trans' h4).setCell _ _ (.inr (Nat.le_refl _)))
            have HS2 := Lib.hid S2
            clear WH h4 b1 b2 d0 d1 d2 d3 k0 a1 S1 S2
            go_wp2_with fail
            generalize hw5 : w4.setCell ⟨W.heap.size, c, none⟩ (.bool true) = w5 at *
            have S3 := Lib.hid ((HS2.out.chg ((Ch.refl [] w5).drew)).chg ((Ch.refl [] _).alloc (.cells #[.int .u64 ca, .int .u64 cb] 24)))
            have HCW5 := Lib.hid (HC0.out.trans' HS2.out.ch)
            have HN2 := Lib.hid (newL (w := w5.drew) (b := w5.heap.size) rfl [.int .u64 ca, .int .u64 cb] 24)
            have hrow := S3.out.row
            simp only at hrow
            rw [HNL.out] at hrow
            have HROW := Lib.hid hrow
            have FIN : Hid (∀ (w6 : World) (v' : Value) (lq' : List Nat), Row w6 24 1 v' lq' (nl + 2) (ints .u64 L ++ [.int .u64 ca, .int .u64 cb]) → Ch lq (w5.drew.alloc (.cells #[.int .u64 ca, .int .u64 cb] 24)) w6 → (lq' = lq ∨ ∃ q', lq' = [q'] ∧ (w5.drew.alloc (.cells #[.int .u64 ca, .int .u64 cb] 24)).heap.size ≤ q' ∧ q' < w6.heap.size) →
                WSt W W.heap.size w6 v' (wkK v.cells whiteC ws (k + 1)) lq' ∧ Ch [] w w6 ∧ Ch [] W w6) := Lib.hid (fun w6 v' lq' hr4 hc4 hq4 => by
              have S4 := S3.out.pushL (M := [ca, cb]) (by rw [HNL.out]; exact hr4) hc4 hq4
              rw [NX.out]
              exact ⟨S4, HC0.out.trans' S4.ch, S4.ch⟩)
            clear S3 hrow hw5 f1 f2 NX HS HN HST HRO HCW HLN KX HCEL HM1 HIN HB HWL HS2
            go_region_held3 (fun w' => (w'.cell? ⟨bh, offh + c * 4 + 2, none⟩ = some (.int .u64 ca) ∧ w'.cell? ⟨bh, offh + c * 4 + 3, none⟩ = some (.int .u64 cb)) ∧ w'.cell? ⟨w.heap.size, 0, none⟩ = some (.slice (some ⟨bh, offh, none⟩) n a.cc)) (refine ⟨⟨HA2.out _ ?_, HA3.out _ ?_⟩, HKX.out _ ?_⟩ <;> repeat (first | exact HCW5.out | exact HCW4.out | exact HCW6.out | exact HCW7.out | apply Ch.drew | apply Ch.alloc))
              (first | (refine step_append_row (by rfl) _ _ 62 (by rfl) 24 i0 (.int .u64 0) 1 8 Tryd.underlying62 hi hz0 hz1 hz2 rfl (by decide) (by rfl) HROW.out ⟨w5.heap.size, 0, none⟩ 2 2 [.int .u64 ca, .int .u64 cb] (by rfl) rfl HN2.out (one2 _ _ _ _) (by unfold maxLen; omega) (by omega) ?_; intro v' w6 lq' hr4 hc4 hq4; have Z4 := FIN.out w6 v' lq' hr4 hc4 hq4; obtain ⟨ao5, cap5, rfl, _⟩ := hr4.rd; have HCW6 := Lib.hid Z4.2.1; have HCW7 := Lib.hid Z4.2.2; have Z5 := Lib.hid Z4.1; have K2 := HA2.out w6 Z4.2.1; have K3 := HA3.out w6 Z4.2.1; have K4 := HKX.out w6 Z4.2.2; clear hr4 hc4 hq4 Z4))
            all_goals
              go_wp2_with fail
              go_roundw
              case rel => exact ⟨k + 1, lq', by go_num, HK.out, Z5.out, HCW7.out⟩
              case measure => have := HLE.out; simp [intOf]; omega
        · rw [hb] at b1 NX
          simp only [Bool.not_true, Bool.false_and, Bool.false_eq_true, if_false] at NX
          clear hb hch hcn
          go_wp2_with fail
          refine CC.mono ?_
          rintro e w3 ⟨rfl, rfl⟩
          clear CC
          go_wp2_with fail
          go_roundw
          case rel => exact ⟨k + 1, lq, by go_num, HK.out, by rw [NX.out]; exact HST.out, HCW.out⟩
          case measure => have := HLE.out; simp [intOf]; omega
    · have hend := wkK_end (h := v.cells) (cnt := whiteC) (src := ws) (k := k) (by omega)
      have ltI : ¬ (k : Int) < (wkK v.cells whiteC ws k).2.length := by omega
      have Z : Hid (WalkPost n (walkF v.cells whiteC ws) w (.returned (.slice (some ⟨W.heap.size, 0, none⟩) n n)) wr) := Lib.hid ⟨_, rfl, by rw [← hend]; exact hst.met, HC0.out.trans' hst.ch, HC0.out.size⟩
      clear hst l3 hinv hend hcW
      generalize (wkK v.cells whiteC ws k).2.length = len at *
      go_wp2_with fail
      rw [HRR.out]
      exact Z.out
set_option maxHeartbeats 4000000 in
theorem walkH_any (w : World) (a : VA) (v : Vw) (aw : Option Addr) (m cw : Nat) (ws : List Int) (hm : m ≤ 1000000) (hv : VM w a v) (hr : VR v) (hrw : RdF w aw m (ints .u64 ws) []) (hu : ∀ x ∈ ws, Gp.u64 x) (hk : WOk v.cells nofree ws) (hb : Bnd w) :
    Calls Tryd.prog 70 #[.agg (a.arr v), .slice aw m cw, .func (.func 71) #[] #[]] w (WalkPost v.cells.length (walkF v.cells nofree ws) w) := by
  obtain ⟨W, hW⟩ : ∃ W, W = w.alloc (.cells (a.arr v) 65) := ⟨_, rfl⟩
  have C0 : Ch [] w W := by rw [hW]; exact (Ch.refl _ _).alloc _
  have hbx : W.heap[w.heap.size]? = some (.cells (a.arr v) 65 (0, 0)) := by rw [hW]; exact heap_new w _
  have hwl : ws.length = m := by simpa [ints] using hrw.1
  have n1 := hr.n1
  have hmk : ∀ w : World, _ := fun w => run_make_bools w v.cells.length (by omega)
  obtain ⟨i0, hi, he⟩ := Option.map_eq_some_iff.1 infoWord
  simp only [Prod.mk.injEq] at he
  obtain ⟨hz0, hz1, hz2⟩ := he
  obtain ⟨W1, hW1⟩ : ∃ W1, W1 = W.alloc (.cells (bv (List.replicate v.cells.length false)).toArray 4) := ⟨_, rfl⟩
  have C1 : Ch [] W W1 := by rw [hW1]; exact (Ch.refl _ _).alloc _
  have hm1 : W1.heap[W.heap.size]? = some (.cells (bv (List.replicate v.cells.length false)).toArray 4 (0, 0)) := by rw [hW1]; exact heap_new W _
  have CL := Clone_any W1 aw m cw ws hm (hrw.ch (T' := []) (C0.trans' C1) (by simp))
  have HBX := Lib.hid hbx
  have KX : Hid (∀ w1 : World, Ch [] W w1 → w1.cell? ⟨w.heap.size, 0, none⟩ = some (.slice a.ac v.cells.length a.cc)) := Lib.hid (fun w1 h1 => by
    have hh := h1.heap HBX.out (by simp)
    unfold VA.arr at hh
    exact cell_at hh)
  have k0 := KX.out W (Ch.refl _ _)
  have k1 := KX.out W1 C1
  have HCEL := Lib.hid hv.cells
  have HC0 := Lib.hid C0
  have HC1 := Lib.hid C1
  have HM1 := Lib.hid hm1
  have HRO := Lib.hid (row_ok hk hr.cells hu)
  have HIN := Lib.hid hr.cells
  have HB := Lib.hid hb
  have HWL := Lib.hid hwl
  have HSZ1 : Hid (W1.heap.size = W.heap.size + 1) := Lib.hid (by rw [hW1, World.size_alloc])
  have HSZ0 : Hid (W.heap.size = w.heap.size + 1) := Lib.hid (by rw [hW, World.size_alloc])
  unfold VA.arr at hW ⊢
  clear hv hr hrw hu hk hb hbx C0 C1 hm1 hwl
  generalize hn : v.cells.length = n at *
  have HN := Lib.hid hn
  obtain ⟨R, hR⟩ : ∃ R, R = WalkPost n (walkF v.cells nofree ws) w := ⟨_, rfl⟩
  have HRR := Lib.hid hR
  rw [← hR]
  clear hn hR
  go_enter Tryd.func70, Tryd.ntmps70
  go_wp2_with fail
  rw [← hW]
  unfold Mk2 at CL
  generalize hsz : w.heap.size + 1 = wsz
  have e1 : wsz = W.heap.size := by rw [← hsz]; exact HSZ0.out.symm
  subst e1
  clear hsz
  rw [← hW1]
  have HW := Lib.hid hW
  have HW1 := Lib.hid hW1
  clear hW hW1
  refine CL.mono ?_
  rintro e w2 ⟨lv, lq, rfl, g1, g2, g3⟩
  have S0 : Hid (WSt W W.heap.size w2 lv (List.replicate n false, ws) lq) := Lib.hid ⟨by rw [HWL.out]; exact g1, g2.heap HM1.out (by simp), HC1.out.trans' g2, fun q hq => by
    have h1 := g3 q hq
    have h3 := HSZ1.out
    omega, Nat.le_refl _⟩
  have Z2 := Lib.hid (HC1.out.trans' g2)
  obtain ⟨a1, c1, rfl, _⟩ := g1.rd
  clear CL g1 g2 g3 k0 k1
  go_wp2_with fail
  go_loopw [9, 8] (fun i lv wr => ∃ (k : Nat) (lq : List Nat), i = .int .i64 k ∧ k ≤ (wkK v.cells nofree ws k).2.length ∧ WSt W W.heap.size wr lv (wkK v.cells nofree ws k) lq ∧ Ch [] W wr) (fun i _ _ => m + 2 * n - (intOf i).toNat)
  case atStart => exact ⟨0, lq, rfl, by simp, by have := S0.out; rw [← HN.out] at this; exact this, Z2.out⟩
  case round =>
    obtain ⟨k, lq, rfl, hk, hst, hcW⟩ := hrel
    clear S0 Z2
    have hinv := wkK_inv v.cells nofree ws k
    have hle := hinv.le
    rw [HWL.out, HN.out] at hle
    obtain ⟨al, cl, rfl, l1, l2, l3⟩ := hst.row.rd
    by_cases hlt : k < (wkK v.cells nofree ws k).2.length
    · obtain ⟨x, hx⟩ : ∃ x, (wkK v.cells nofree ws k).2[k]? = some x := ⟨_, List.getElem?_eq_getElem hlt⟩
      obtain ⟨hxu, hxc⟩ := HRO.out k x (List.mem_of_getElem? hx)
      have NX := Lib.hid (wkK_next hx)
      obtain ⟨b, off, rfl, hj⟩ := l3.2.resolve_left (by omega)
      have a1 := hj k (by omega)
      rw [show (ints .u64 (wkK v.cells nofree ws k).2)[k]? = some (.int .u64 x) by simp [ints, hx]] at a1
      have CC := Wd.Cell_any wr x hxu.1 hxu.2 (Bnd.ch HB.out (HC0.out.trans' hst.ch) (by simp))
      have hrg := cellN_range x
      have HST := Lib.hid hst
      have HCW := Lib.hid hcW
      have ltI : (k : Int) < (wkK v.cells nofree ws k).2.length := by omega
      have HLE := Lib.hid hle
      have HLN : Hid ((wkK v.cells nofree ws k).1.length = n) := Lib.hid (by rw [hinv.len, HN.out])
      have HK : Hid (k + 1 ≤ (wkK v.cells nofree ws (k + 1)).2.length) := Lib.hid (by
        rw [NX.out]
        obtain ⟨t, ht⟩ := cstep_pre v.cells nofree (wkK v.cells nofree ws k) x
        rw [ht, List.length_append]; omega)
      have hnl' : (wkK v.cells nofree ws k).2.length ≤ 1500000 := by omega
      clear hxu hx hj l3 hst hinv hcW
      generalize hs : wkK v.cells nofree ws k = s at *
      have HS := Lib.hid hs
      clear hs
      obtain ⟨ms, L⟩ := s
      simp only at l1 ltI hlt hnl' a1
      generalize hnl : L.length = nl at *
      have HNL := Lib.hid hnl
      clear hnl hk
      unfold cstep at NX
      simp only at NX
      cases href : isRef x
      · rw [href] at CC NX
        simp only [Bool.false_and, Bool.false_eq_true, if_false] at NX
        clear href hrg hxc
        generalize cellN x = cv at *
        go_wp2_with fail
        refine CC.mono ?_
        rintro e w3 ⟨rfl, rfl⟩
        clear CC
        go_wp2_with fail
        go_roundw
        case rel => exact ⟨k + 1, lq, by go_num, HK.out, by rw [NX.out]; exact HST.out, HCW.out⟩
        case measure => have := HLE.out; simp [intOf]; omega
      · rw [href] at CC NX
        have hcn := hxc href
        obtain ⟨c, hc⟩ : ∃ c : Nat, c = (cellN x).toNat := ⟨_, rfl⟩
        have hcv : cellN x = (c : Int) := by omega
        rw [← hc] at hcn
        rw [← hc] at NX
        rw [hcv] at CC
        simp only [Bool.true_and] at NX
        have b1 := cell_at (i := c) HST.out.met
        rw [List.getElem?_toArray, bv_at _ _ (by rw [show ms.length = n from HLN.out]; exact hcn)] at b1
        have b2 := free_at (i := c) HST.out.met
        have ltC : (c : Int) < n := by omega
        have hch : c < v.cells.length := by rw [HN.out]; exact hcn
        clear href hxc hc hcv hrg
        cases hb : ms.getD c true
        · rw [hb] at b1 NX
          simp only [Bool.not_false, Bool.true_and] at NX
          obtain ⟨bh, offh, hab, hbhn, hjh⟩ := HCEL.out.2.resolve_left (by omega)
          have HA : Hid (∀ W', Ch [] w W' → ∀ t, t < 4 → W'.cell? ⟨bh, offh + (c * 4 + t), none⟩ = (celV (v.cells.getD c z))[t]?) := Lib.hid (fun W' hcW t ht => by
            have h3 := (hjh (c * 4 + t) (by omega)).trans (flat_get v.cells c t hch ht)
            rw [List.getElem?_eq_getElem (by simp [celV]; omega)] at h3 ⊢
            exact hcW.cell h3 (by simp))
          have d0 := HA.out wr (HC0.out.trans' HST.out.ch) 0 (by omega)
          have d1 := HA.out wr (HC0.out.trans' HST.out.ch) 1 (by omega)
          have d2 := HA.out wr (HC0.out.trans' HST.out.ch) 2 (by omega)
          have d3 := HA.out wr (HC0.out.trans' HST.out.ch) 3 (by omega)
          generalize v.cells.getD c z = y at *
          obtain ⟨ck, cc, ca, cb⟩ := y
          have HA2 : Hid (∀ W', Ch [] w W' → W'.cell? ⟨bh, offh + c * 4 + 2, none⟩ = some (.int .u64 ca)) := Lib.hid (fun W' hc => HA.out W' hc 2 (by omega))
          have HA3 : Hid (∀ W', Ch [] w W' → W'.cell? ⟨bh, offh + c * 4 + 3, none⟩ = some (.int .u64 cb)) := Lib.hid (fun W' hc => HA.out W' hc 3 (by omega))
          simp only [celV, List.getElem?_cons_zero, List.getElem?_cons_succ, Nat.add_zero, ← Nat.add_assoc] at d0 d1 d2 d3
          have WH := holds1_any wr ck cc ca cb
          have k0 := KX.out wr HCW.out
          have HKX : Hid (∀ w1 : World, Ch [] W w1 → w1.cell? ⟨w.heap.size, 0, none⟩ = some (.slice (some ⟨bh, offh, none⟩) n a.cc)) := Lib.hid (fun w1 h1 => by rw [← hab]; exact KX.out w1 h1)
          rw [hab] at k0 ⊢
          clear hb hbhn hjh hab HA hch hcn
          cases hw : nofree ⟨ck, cc, ca, cb⟩
          · rw [hw] at WH NX
            simp only [Bool.false_eq_true, if_false] at NX
            clear hw
            go_wp2_with fail
            refine CC.mono ?_
            rintro e w3 ⟨rfl, rfl⟩
            clear CC
            go_wp2_with fail
            refine WH.mono ?_
            rintro e w4 ⟨rfl, h4⟩
            have H4 := Lib.hid h4
            clear WH h4
            go_wp2_with fail
            go_roundw
            case rel => exact ⟨k + 1, lq, by go_num, HK.out, by rw [NX.out]; exact HST.out.chg H4.out, HCW.out.trans' H4.out⟩
            case measure => have := HLE.out; simp [intOf]; omega
          · rw [hw] at WH NX
            simp only [if_true] at NX
            clear hw
            go_wp2_with fail
            refine CC.mono ?_
            rintro e w3 ⟨rfl, rfl⟩
            clear CC
            go_wp2_with fail
            refine WH.mono ?_
            rintro e w4 ⟨rfl, h4⟩
            have S1 := HST.out.chg h4
            have f1 := h4.cell b1 (by simp)
            have f2 := free_at (i := c) S1.met
            have S2 := S1.setMet c
            have HCW4 : Hid (Ch [] W (w4.setCell ⟨W.heap.size, c, none⟩ (.bool true))) := Lib.hid ((HCW.out.trans' h4).setCell _ _ (.inr (Nat.le_refl _)))
            have HS2 := Lib.hid S2
            clear WH h4 b1 b2 d0 d1 d2 d3 k0 a1 S1 S2
            go_wp2_with fail
            generalize hw5 : w4.setCell ⟨W.heap.size, c, none⟩ (.bool true) = w5 at *
            have S3 := Lib.hid ((HS2.out.chg ((Ch.refl [] w5).drew)).chg ((Ch.refl [] _).alloc (.cells #[.int .u64 ca, .int .u64 cb] 24)))
            have HCW5 := Lib.hid (HC0.out.trans' HS2.out.ch)
            have HN2 := Lib.hid (newL (w := w5.drew) (b := w5.heap.size) rfl [.int .u64 ca, .int .u64 cb] 24)
            have hrow := S3.out.row
            simp only at hrow
            rw [HNL.out] at hrow
            have HROW := Lib.hid hrow
            have FIN : Hid (∀ (w6 : World) (v' : Value) (lq' : List Nat), Row w6 24 1 v' lq' (nl + 2) (ints .u64 L ++ [.int .u64 ca, .int .u64 cb]) → Ch lq (w5.drew.alloc (.cells #[.int .u64 ca, .int .u64 cb] 24)) w6 → (lq' = lq ∨ ∃ q', lq' = [q'] ∧ (w5.drew.alloc (.cells #[.int .u64 ca, .int .u64 cb] 24)).heap.size ≤ q' ∧ q' < w6.heap.size) →
                WSt W W.heap.size w6 v' (wkK v.cells nofree ws (k + 1)) lq' ∧ Ch [] w w6 ∧ Ch [] W w6) := Lib.hid (fun w6 v' lq' hr4 hc4 hq4 => by
              have S4 := S3.out.pushL (M := [ca, cb]) (by rw [HNL.out]; exact hr4) hc4 hq4
              rw [NX.out]
              exact ⟨S4, HC0.out.trans' S4.ch, S4.ch⟩)
            clear S3 hrow hw5 f1 f2 NX HS HN HST HRO HCW HLN KX HCEL HM1 HIN HB HWL HS2
            go_region_held3 (fun w' => (w'.cell? ⟨bh, offh + c * 4 + 2, none⟩ = some (.int .u64 ca) ∧ w'.cell? ⟨bh, offh + c * 4 + 3, none⟩ = some (.int .u64 cb)) ∧ w'.cell? ⟨w.heap.size, 0, none⟩ = some (.slice (some ⟨bh, offh, none⟩) n a.cc)) (refine ⟨⟨HA2.out _ ?_, HA3.out _ ?_⟩, HKX.out _ ?_⟩ <;> repeat (first | exact HCW5.out | exact HCW4.out | exact HCW6.out | exact HCW7.out | apply Ch.drew | apply Ch.alloc))
              (first | (refine step_append_row (by rfl) _ _ 62 (by rfl) 24 i0 (.int .u64 0) 1 8 Tryd.underlying62 hi hz0 hz1 hz2 rfl (by decide) (by rfl) HROW.out ⟨w5.heap.size, 0, none⟩ 2 2 [.int .u64 ca, .int .u64 cb] (by rfl) rfl HN2.out (one2 _ _ _ _) (by unfold maxLen; omega) (by omega) ?_; intro v' w6 lq' hr4 hc4 hq4; have Z4 := FIN.out w6 v' lq' hr4 hc4 hq4; obtain ⟨ao5, cap5, rfl, _⟩ := hr4.rd; have HCW6 := Lib.hid Z4.2.1; have HCW7 := Lib.hid Z4.2.2; have Z5 := Lib.hid Z4.1; have K2 := HA2.out w6 Z4.2.1; have K3 := HA3.out w6 Z4.2.1; have K4 := HKX.out w6 Z4.2.2; clear hr4 hc4 hq4 Z4))
            all_goals
              go_wp2_with fail
              go_roundw
              case rel => exact ⟨k + 1, lq', by go_num, HK.out, Z5.out, HCW7.out⟩
              case measure => have := HLE.out; simp [intOf]; omega
        · rw [hb] at b1 NX
          simp only [Bool.not_true, Bool.false_and, Bool.false_eq_true, if_false] at NX
          clear hb hch hcn
          go_wp2_with fail
          refine CC.mono ?_
          rintro e w3 ⟨rfl, rfl⟩
          clear CC
          go_wp2_with fail
          go_roundw
          case rel => exact ⟨k + 1, lq, by go_num, HK.out, by rw [NX.out]; exact HST.out, HCW.out⟩
          case measure => have := HLE.out; simp [intOf]; omega
    · have hend := wkK_end (h := v.cells) (cnt := nofree) (src := ws) (k := k) (by omega)
      have ltI : ¬ (k : Int) < (wkK v.cells nofree ws k).2.length := by omega
      have Z : Hid (WalkPost n (walkF v.cells nofree ws) w (.returned (.slice (some ⟨W.heap.size, 0, none⟩) n n)) wr) := Lib.hid ⟨_, rfl, by rw [← hend]; exact hst.met, HC0.out.trans' hst.ch, HC0.out.size⟩
      clear hst l3 hinv hend hcW
      generalize (wkK v.cells nofree ws k).2.length = len at *
      go_wp2_with fail
      rw [HRR.out]
      exact Z.out
end Go.Proofs.YtlhhcocdhkbdnaaDoor.Bp
