/-
  THE WALK of dappleref10.Form.
-/
import Derived.Test.YtggijcebobjghaaDoorQJRef10b
set_option linter.unusedVariables false
set_option linter.unusedSimpArgs false
set_option maxRecDepth 100000
namespace Go.Proofs.YtggijcebobjghaaDoor.R10
open Go.RowKit Go.Proofs.YtggijcebobjghaaDoor.Wd Go.Proofs.YtggijcebobjghaaDoor.Hp Go.Proofs.YtggijcebobjghaaDoor.Gp Go.Proofs.YtggijcebobjghaaDoor.Sm Go.Proofs.YtggijcebobjghaaDoor.Gr
def Form10 (h : List Cel) (ws : List Int) (w : World) (en : Ending) (w' : World) : Prop :=
  ∃ (vx : Value) (qx : List Nat) (vy : Value) (qy : List Nat), en = .returned (.tuple #[vx, vy]) ∧ Row w' 55 4 vx qx (formH h ws).length (flat (formH h ws)) ∧ Row w' 53 1 vy qy (formW h ws).length (ints .u64 (formW h ws)) ∧ Ch [] w w'
set_option maxHeartbeats 4000000 in
theorem Form_any (w : World) (ao : Option Addr) (cap : Nat) (h : List Cel) (aw : Option Addr) (m cw : Nat) (ws : List Int) (hn : h.length ≤ 1000000) (hm : m ≤ 1000000)
    (hr : RdF w ao (h.length * 4) (flat h) []) (hrw : RdF w aw m (ints .u64 ws) []) (hh : ∀ x ∈ h, InR x) (hu : ∀ v ∈ ws, Gp.u64 v) (hmay : may h ws = true) :
    Calls Tryd.prog 41 #[.slice ao h.length cap, .slice aw m cw] w (Form10 h ws w) := by
  have O := Order_any w ao cap h aw m cw ws hn hm hr hrw hh hu hmay
  have HR := Lib.hid hr
  have HRW := Lib.hid hrw
  have HHH := Lib.hid hh
  have HU := Lib.hid hu
  have HMY := Lib.hid hmay
  obtain ⟨R, hR⟩ : ∃ R, R = Form10 h ws w := ⟨_, rfl⟩
  have HRR := Lib.hid hR
  rw [← hR]
  obtain ⟨n, hnl⟩ : ∃ n, n = h.length := ⟨_, rfl⟩
  have hn' : n ≤ 1000000 := by rw [hnl]; exact hn
  have hmk : ∀ w : World, _ := fun w => run_make_ints w n hn'
  have HN := Lib.hid hnl
  rw [← hnl] at O ⊢
  clear hr hrw hh hu hmay hR hnl
  go_enter Tryd.func41, Tryd.ntmps41
  go_wp2_with fail
  refine O.mono ?_
  rintro e w3 ⟨v, qs, rfl, g1, g3, g6⟩
  have H3 := Lib.hid g3
  obtain ⟨al, cl, rfl, hcl, hrl⟩ := Row.rdF g1
  obtain ⟨l, hl⟩ : ∃ l, l = (order h ws).2 := ⟨_, rfl⟩
  obtain ⟨k, hk⟩ : ∃ k, k = l.length := ⟨_, rfl⟩
  rw [← hl] at hrl ⊢
  rw [← hk] at hrl ⊢
  have HL := Lib.hid hl
  have HK := Lib.hid hk
  have HRL := Lib.hid hrl
  clear O g1 g3 g6 hrl hl hk
  have HC0 : Hid (Ch [] w3 (w3.alloc (.cells (nv (List.replicate n 0)).toArray 3))) := Lib.hid ((Ch.refl _ _).alloc _)
  have HP0 : Hid ((w3.alloc (.cells (nv (List.replicate n 0)).toArray 3)).heap[w3.heap.size]? = some (.cells (nv (placeK n l 0)).toArray 3 (0, 0))) := Lib.hid (heap_new w3 _)
  have HLT : Hid (∀ j, j < k → l.getD j 0 < n) := Lib.hid (fun j hj => by rw [HN.out, HL.out]; exact inv_lt (order_inv HMY.out) j (by rw [← HL.out, ← HK.out]; exact hj))
  have HKN : k ≤ n := by have := (order_inv HMY.out).le; rw [← HL.out, ← HK.out, ← HN.out] at this; exact this
  clear hcl
  go_wp2_with fail
  go_loopw [8] (fun i wr => ∃ j : Nat, i = .int .i64 j ∧ j ≤ k ∧ wr.heap[w3.heap.size]? = some (.cells (nv (placeK n l j)).toArray 3 (0, 0)) ∧ Ch [] w3 wr) (fun i _ => k - (intOf i).toNat)
  case atStart => exact ⟨0, rfl, by omega, HP0.out, HC0.out⟩
  case round =>
    obtain ⟨j, rfl, hjk, hpl, hc⟩ := hrel
    have HC := Lib.hid hc
    have HPL := Lib.hid hpl
    clear HP0 HC0
    by_cases hlt : j < k
    · have hcn := HLT.out j hlt
      obtain ⟨b, off, rfl, hbn, hj⟩ := HRL.out.2.resolve_left (by omega)
      have a1 := hc.cell ((hj j (by omega)).trans (nv_at _ _ (by rw [← HK.out]; exact hlt))) (by simp)
      have HS : Hid (placeK n l (j + 1) = (placeK n l j).set (l.getD j 0) j) := Lib.hid rfl
      generalize l.getD j 0 = c at *
      have a3 := cell_at (i := c) hpl
      rw [List.getElem?_toArray, nv_at _ _ (by rw [placeK_len]; exact hcn)] at a3
      have f3 := free_at (i := c) hpl
      have ltI : (c : Int) < n := by omega
      have ltJ : (j : Int) < k := by omega
      clear hj hbn hpl hc
      go_wp2_with fail
      go_roundw
      case rel =>
        refine ⟨j + 1, by go_num, by omega, ?_, HC.out.setCell _ _ (.inr (Nat.le_refl _))⟩
        rw [HS.out, ← nv_set]; exact heap_set HPL.out _
      case measure => simp [intOf]; omega
    · obtain rfl : k = j := by omega
      obtain ⟨w4, rfl⟩ : ∃ w4 : World, w4 = wr := ⟨_, rfl⟩
      obtain ⟨pl, hpl'⟩ : ∃ pl, pl = placeK n l k := ⟨_, rfl⟩
      rw [← hpl'] at hpl
      have HPE : Hid (pl = place h ws) := Lib.hid (by rw [hpl']; unfold place; rw [← HL.out, ← HN.out, ← HK.out])
      have hpll : pl.length = n := by rw [hpl', placeK_len]
      have hpls : ∀ c, pl.getD c 0 ≤ 1000000 := fun c => by rw [hpl']; exact Nat.le_trans (placeK_le _ _ _ _) (by omega)
      have HPL := Lib.hid hpl
      have H4 := Lib.hid (H3.out.trans' hc)
      have HLL := Lib.hid hpll
      have HLS := Lib.hid hpls
      have HRL4 := Lib.hid (HRL.out.ch (T' := []) hc (by simp))
      have HF1 : Hid (∀ (x : Int), Gp.u64 x → (isRef x = true → (cellN x).toNat < n) → ∀ wx, Ch [] w4 wx → Calls Tryd.prog 77 #[.int .u64 x, .slice (some ⟨w3.heap.size, 0, none⟩) n n] wx fun e w' => e = .returned (.int .u64 (moved pl x)) ∧ w' = wx) := Lib.hid (fun x hx hr wx hcx =>
        renamed_any wx x _ n n pl hx ⟨by rw [nv_len, hpll], .inr ⟨_, 0, rfl, by simp, fun j hj => by rw [cell_at (hcx.heap hpl (by simp))]; simp⟩⟩ hpll hpls hr)
      clear hpl' hpll hpls hpl hc HC HRL H3 hmk
      go_wp2_with fail
      go_loopw [10, 9] (fun i o wr => ∃ (j : Nat) (qs : List Nat), i = .int .i64 j ∧ j ≤ k ∧ Row wr 55 4 o qs j (formL h pl l j) ∧ Ch [] w4 wr ∧ ∀ q ∈ qs, w4.heap.size ≤ q ∧ q < wr.heap.size) (fun i o _ => k - (intOf i).toNat)
      case atStart => exact ⟨0, [], rfl, by omega, Row.nil _ _ _ _, Ch.refl _ _, by simp⟩
      case round =>
        obtain ⟨j, qs, rfl, hjk, hrow, hc, hqs⟩ := hrel
        obtain ⟨aq, cq, rfl, q1, q2, q3⟩ := hrow.rd
        clear q3
        by_cases hlt : j < k
        · have hcn := HLT.out j hlt
          have hjl : j < l.length := by rw [← HK.out]; exact hlt
          obtain ⟨b, off, rfl, hbn, hj⟩ := HRL4.out.2.resolve_left (by omega)
          have a1 := hc.cell ((hj j (by omega)).trans (nv_at _ _ hjl)) (by simp)
          have HTK := Lib.hid (formL_snoc h pl l j hjl)
          generalize l.getD j 0 = c at *
          have hch : c < h.length := by rw [← HN.out]; exact hcn
          obtain ⟨bh, offh, rfl, hbhn, hjh⟩ := HR.out.2.resolve_left (by omega)
          have hA : ∀ t, t < 4 → wr.cell? ⟨bh, offh + (c * 4 + t), none⟩ = (celV (h.getD c z))[t]? := fun t ht => by
            have h3 := (hjh (c * 4 + t) (by omega)).trans (flat_get h c t hch ht)
            rw [List.getElem?_eq_getElem (by simp [celV]; omega)] at h3 ⊢
            exact (H4.out.trans' hc).cell h3 (by simp)
          have b0 := hA 0 (by omega)
          have b1 := hA 1 (by omega)
          have b2 := hA 2 (by omega)
          have b3 := hA 3 (by omega)
          obtain ⟨i1, i2, i3, i4, i5, i6⟩ := InR.at HHH.out c hch
          have HFC : Hid (formC h pl c = if (h.getD c z).k = 0 then ⟨0, 0, 0, 0⟩ else ⟨(h.getD c z).k, 0, moved pl (h.getD c z).a, moved pl (h.getD c z).b⟩) := Lib.hid rfl
          have HOK : Hid (∀ v ∈ wordsOf h c, isRef v = true → (cellN v).toNat < n) := Lib.hid (by rw [HN.out]; exact may_cells HMY.out c hch)
          unfold wordsOf at HOK
          generalize h.getD c z = x at *
          obtain ⟨ck, cc, ca, cb⟩ := x
          simp only [celV, List.getElem?_cons_zero, List.getElem?_cons_succ, Nat.add_zero, ← Nat.add_assoc] at b0 b1 b2 b3
          simp only at i1 i2 i3 i4 i5 i6 HFC HOK
          have ltI : (c : Int) < n := by omega
          have ltJ : (j : Int) < k := by omega
          have HROW := Lib.hid hrow
          have HC := Lib.hid hc
          have HQ := Lib.hid hqs
          clear hj hbn hrow hc hqs hA hjh hbhn HRL4 HR hch hcn
          obtain ⟨i0, hi, he⟩ := Option.map_eq_some_iff.1 infoCell
          simp only [Prod.mk.injEq] at he
          obtain ⟨hz0, hz1, hz2⟩ := he
          have hlen : j ≤ 1000000 := by omega
          by_cases k0 : ck = 0
          · subst k0
            have CAB := Lib.hid ((((Ch.refl [] wr).alloc (.cells #[.int .u8 0, .int .u8 cc, .int .u64 ca, .int .u64 cb] 55)).alloc (.cells #[.int .u8 0, .int .u8 0, .int .u64 0, .int .u64 0] 55)).alloc (.cells #[.int .u8 0, .int .u8 0, .int .u64 0, .int .u64 0] 55))
            have HR1 := Lib.hid (HROW.out.ch CAB.out (by simp))
            have HN1 := Lib.hid (newL (w := (wr.alloc (.cells #[.int .u8 0, .int .u8 cc, .int .u64 ca, .int .u64 cb] 55)).alloc (.cells #[.int .u8 0, .int .u8 0, .int .u64 0, .int .u64 0] 55)) (b := wr.heap.size + 2) (by simp) [.int .u8 0, .int .u8 0, .int .u64 0, .int .u64 0] 55)
            clear HROW
            go_wp2_with (at_builtin; go_loud (refine wpList_append_row _ rfl _ _ 23 rfl 55 i0 _ 4 24 Tryd.underlying23 hi hz0 hz1 hz2 rfl (by decide) rfl HR1.out ⟨wr.heap.size + 2, 0, none⟩ 1 1 [.int .u8 0, .int .u8 0, .int .u64 0, .int .u64 0] rfl rfl HN1.out (one4 _ _ _ _ _ _ _ _) (by unfold maxLen; omega) (by omega) ?_))
            intro v' w1 qs' hr4 hc4 hq4
            have HR4 := Lib.hid hr4
            have HC4 := Lib.hid hc4
            have HQ4 := Lib.hid hq4
            obtain ⟨ao4, cap4, rfl, _⟩ := hr4.rd
            clear hr4 hc4 hq4
            go_wp2_with fail
            go_roundw
            case rel =>
              refine ⟨j + 1, qs', by go_num, by omega, ?_, (HC.out.trans' CAB.out).trans HC4.out (fun x hx => .inr (HQ.out x hx).1), fun q hq => ?_⟩
              · rw [HTK.out, HFC.out, if_pos trivial]; exact HR4.out
              · have s1 := CAB.out.size
                have s2 := HC4.out.size
                have s3 := HC.out.size
                rcases HQ4.out with e | ⟨q', e, h3, h4⟩
                · rw [e] at hq; have := HQ.out q hq; omega
                · rw [e] at hq; simp at hq; subst hq; exact ⟨by omega, h4⟩
            case measure => simp [intOf]; omega
          · rw [if_neg k0] at HOK
            have okA := HOK.out ca (by simp)
            have okB := HOK.out cb (by simp)
            have k0' : (ck != 0) = true := by simpa using k0
            obtain ⟨wa, hwa⟩ : ∃ wa, wa = (wr.alloc (.cells #[.int .u8 ck, .int .u8 cc, .int .u64 ca, .int .u64 cb] 55)).alloc (.cells #[.int .u8 ck, .int .u8 0, .int .u64 0, .int .u64 0] 55) := ⟨_, rfl⟩
            have CA : Ch [] wr wa := by rw [hwa]; exact ((Ch.refl [] wr).alloc _).alloc _
            have hs : wa.heap.size = wr.heap.size + 2 := by rw [hwa]; simp
            have hn0 : wa.heap[wr.heap.size]? = some (.cells #[.int .u8 ck, .int .u8 cc, .int .u64 ca, .int .u64 cb] 55 (0, 0)) := by rw [hwa]; exact heap_old (heap_new wr _)
            have hn : wa.heap[wr.heap.size + 1]? = some (.cells #[.int .u8 ck, .int .u8 0, .int .u64 0, .int .u64 0] 55 (0, 0)) := by rw [hwa]; have := heap_new (wr.alloc (.cells #[.int .u8 ck, .int .u8 cc, .int .u64 ca, .int .u64 cb] 55)) (.cells #[.int .u8 ck, .int .u8 0, .int .u64 0, .int .u64 0] 55); simpa using this
            have PA := HF1.out ca i5 okA wa (HC.out.trans' CA)
            have m1 := heap_set (i := 2) hn (.int .u64 (moved pl ca))
            have PB := HF1.out cb i6 okB (wa.setCell ⟨wr.heap.size + 1, 2, none⟩ (.int .u64 (moved pl ca))) ((HC.out.trans' CA).setCell _ _ (.inr (by have := HC.out.size; simp; omega)))
            have m2 := heap_set (i := 3) m1 (.int .u64 (moved pl cb))
            have HCD := Lib.hid ((CA.setCell ⟨wr.heap.size + 1, 2, none⟩ (.int .u64 (moved pl ca)) (.inr (by simp))).setCell ⟨wr.heap.size + 1, 3, none⟩ (.int .u64 (moved pl cb)) (.inr (by simp)))
            generalize moved pl ca = ma at *
            generalize moved pl cb = mb at *
            have hs2 : ((wa.setCell ⟨wr.heap.size + 1, 2, none⟩ (.int .u64 ma)).setCell ⟨wr.heap.size + 1, 3, none⟩ (.int .u64 mb)).heap.size = wr.heap.size + 2 := by simp [World.setCell, hs]
            simp at m2
            have z0 := cell_at (i := 0) m2
            have z1 := cell_at (i := 1) m2
            have z2 := cell_at (i := 2) m2
            have z3 := cell_at (i := 3) m2
            simp only [List.getElem?_toArray, List.getElem?_cons_zero, List.getElem?_cons_succ] at z0 z1 z2 z3
            have CAB := Lib.hid (HCD.out.alloc (.cells #[.int .u8 ck, .int .u8 0, .int .u64 ma, .int .u64 mb] 55))
            have HR1 := Lib.hid (HROW.out.ch CAB.out (by simp))
            have HN1 := Lib.hid (newL (w := ((wa.setCell ⟨wr.heap.size + 1, 2, none⟩ (.int .u64 ma)).setCell ⟨wr.heap.size + 1, 3, none⟩ (.int .u64 mb))) (b := wr.heap.size + 2) hs2.symm [.int .u8 ck, .int .u8 0, .int .u64 ma, .int .u64 mb] 55)
            have v2 := cell_at (i := 2) hn
            have w2 := free_at (i := 2) hn
            have v3 := cell_at (i := 3) m1
            have w3' := free_at (i := 3) m1
            have u3 := cell_at (i := 3) hn0
            have u3' : (wa.setCell ⟨wr.heap.size + 1, 2, none⟩ (.int .u64 ma)).cell? ⟨wr.heap.size, 3, none⟩ = some (.int .u64 cb) := (World.cell?_of_block (heap_set_ne (show wr.heap.size ≠ wr.heap.size + 1 by omega))).trans u3
            simp at v2 v3
            clear hn hn0 m1 m2 HCD HROW CA u3
            go_wp2_with fail
            rw [← hwa]
            have HWA := Lib.hid hwa
            clear hwa b0 b1 b2 b3 a1
            refine PA.mono ?_
            rintro e w' ⟨rfl, rfl⟩
            go_wp2_with fail
            refine PB.mono ?_
            rintro e w' ⟨rfl, rfl⟩
            clear PA PB
            go_wp2_with (at_builtin; go_loud (refine wpList_append_row _ rfl _ _ 23 rfl 55 i0 _ 4 24 Tryd.underlying23 hi hz0 hz1 hz2 rfl (by decide) rfl HR1.out ⟨wr.heap.size + 2, 0, none⟩ 1 1 [.int .u8 ck, .int .u8 0, .int .u64 ma, .int .u64 mb] rfl rfl HN1.out (one4 _ _ _ _ _ _ _ _) (by unfold maxLen; omega) (by omega) ?_))
            intro v' w1 qs' hr4 hc4 hq4
            have HR4 := Lib.hid hr4
            have HC4 := Lib.hid hc4
            have HQ4 := Lib.hid hq4
            obtain ⟨ao4, cap4, rfl, _⟩ := hr4.rd
            clear hr4 hc4 hq4
            go_wp2_with fail
            go_roundw
            case rel =>
              refine ⟨j + 1, qs', by go_num, by omega, ?_, (HC.out.trans' CAB.out).trans HC4.out (fun x hx => .inr (HQ.out x hx).1), fun q hq => ?_⟩
              · rw [HTK.out, HFC.out, if_neg k0]; exact HR4.out
              · have s1 := CAB.out.size
                have s2 := HC4.out.size
                have s3 := HC.out.size
                rcases HQ4.out with e | ⟨q', e, h3, h4⟩
                · rw [e] at hq; have := HQ.out q hq; omega
                · rw [e] at hq; simp at hq; subst hq; exact ⟨by omega, h4⟩
            case measure => simp [intOf]; omega
        · obtain rfl : k = j := by omega
          obtain ⟨w5, rfl⟩ : ∃ w5 : World, w5 = wr := ⟨_, rfl⟩
          have HF5 : Hid (∀ (x : Int), Gp.u64 x → (isRef x = true → (cellN x).toNat < n) → ∀ wx, Ch [] w5 wx → Calls Tryd.prog 77 #[.int .u64 x, .slice (some ⟨w3.heap.size, 0, none⟩) n n] wx fun e w' => e = .returned (.int .u64 (moved pl x)) ∧ w' = wx) := Lib.hid (fun x hx hr wx hcx => HF1.out x hx hr wx (hc.trans' hcx))
          have H5 := Lib.hid (H4.out.trans' hc)
          have HROW := Lib.hid hrow
          have HQ := Lib.hid hqs
          have HRW5 := Lib.hid (HRW.out.ch (T' := []) H5.out (by simp))
          have hwl : ws.length = m := by simpa [ints] using HRW.out.1
          have HWL := Lib.hid hwl
          have HWK : Hid (∀ v ∈ ws, isRef v = true → (cellN v).toNat < n) := Lib.hid (by rw [HN.out]; exact may_roots HMY.out)
          have s5 := hc.size
          have HS5 := Lib.hid s5
          clear hrow hc hqs hwl HRW HF1 s5 HRL4 HR
          go_wp2_with fail
          go_loopw [14, 13] (fun i o wr => ∃ (j : Nat) (qs : List Nat), i = .int .i64 j ∧ j ≤ m ∧ Row wr 53 1 o qs j (movL pl ws j) ∧ Ch [] w5 wr ∧ ∀ q ∈ qs, w5.heap.size ≤ q) (fun i o _ => m - (intOf i).toNat)
          case atStart => exact ⟨0, [], rfl, by omega, Row.nil _ _ _ _, Ch.refl _ _, by simp⟩
          case round =>
            obtain ⟨j, qs2, rfl, hjm, hrow, hc, hqs⟩ := hrel
            obtain ⟨ay, cy, rfl, q1, q2, q3⟩ := hrow.rd
            clear q3
            have HROW2 := Lib.hid hrow
            have HC := Lib.hid hc
            have HQ2 := Lib.hid hqs
            by_cases hlt : j < m
            · have hjl : j < ws.length := by rw [HWL.out]; exact hlt
              obtain ⟨b, off, rfl, hbn, hj⟩ := HRW5.out.2.resolve_left (by omega)
              have HML := Lib.hid (movL_snoc pl ws j hjl)
              have hvm : ws.getD j 0 ∈ ws := by rw [show ws.getD j 0 = ws[j] by simp [List.getD, hjl]]; exact List.getElem_mem hjl
              have a1 := hc.cell ((hj j hlt).trans (ints_get hjl)) (by simp)
              generalize ws.getD j 0 = x at *
              have F := HF5.out x (HU.out x hvm) (HWK.out x hvm) wr hc
              generalize moved pl x = mx at *
              have ltJ : (j : Int) < m := by omega
              obtain ⟨i0, hi, he⟩ := Option.map_eq_some_iff.1 infoWord
              simp only [Prod.mk.injEq] at he
              obtain ⟨hz0, hz1, hz2⟩ := he
              have CAB := Lib.hid ((Ch.refl [] wr).alloc (.cells #[.int .u64 mx] 53))
              have HR1 := Lib.hid (hrow.ch CAB.out (by simp))
              have HN1 := Lib.hid (newL (w := wr) (b := wr.heap.size) rfl [.int .u64 mx] 53)
              clear hrow hc hqs hj hbn hvm
              go_wp2_with fail
              refine F.mono ?_
              rintro e w' ⟨rfl, rfl⟩
              go_wp2_with (at_builtin; go_loud (refine wpList_append_row _ rfl _ _ 24 rfl 53 i0 _ 1 8 Tryd.underlying24 hi hz0 hz1 hz2 rfl (by decide) rfl HR1.out ⟨w'.heap.size, 0, none⟩ 1 1 [.int .u64 mx] rfl rfl HN1.out (one1 _ _) (by unfold maxLen; omega) (by omega) ?_))
              intro v' w1 qs' hr4 hc4 hq4
              have HR4 := Lib.hid hr4
              have HC4 := Lib.hid hc4
              have HQ4 := Lib.hid hq4
              obtain ⟨ao4, cap4, rfl, _⟩ := hr4.rd
              clear hr4 hc4 hq4
              go_wp2_with fail
              go_roundw
              case rel =>
                refine ⟨j + 1, qs', by go_num, by omega, by rw [HML.out]; exact HR4.out, (HC.out.trans' CAB.out).trans HC4.out (fun x hx => .inr (HQ2.out x hx)), fun q hq => ?_⟩
                have s1 := CAB.out.size
                have s3 := HC.out.size
                rcases HQ4.out with e | ⟨q', e, h3, h4⟩
                · rw [e] at hq; exact HQ2.out q hq
                · rw [e] at hq; simp at hq; subst hq; omega
              case measure => simp [intOf]; omega
            · obtain rfl : m = j := by omega
              have Z : Hid (Form10 h ws w (.returned (.tuple #[.slice aq k cq, .slice ay m cy])) wr) := Lib.hid (by
                unfold Form10 formH formW
                rw [HMY.out, ← HPE.out, ← HL.out]
                simp only [if_true]
                refine ⟨_, qs, _, qs2, rfl, ?_, ?_, H5.out.trans' hc⟩
                · rw [List.length_map, ← HK.out]
                  have := HROW.out.ch hc (by simp)
                  unfold formL at this
                  rwa [List.take_of_length_le (by rw [HK.out]; exact Nat.le_refl _)] at this
                · rw [List.length_map, HWL.out]
                  unfold movL at hrow
                  rwa [List.take_of_length_le (by rw [HWL.out]; exact Nat.le_refl _)] at hrow)
              clear hrow hc hqs HROW2 HQ2 HC HF5
              go_wp2_with fail
              rw [HRR.out]
              exact Z.out
end Go.Proofs.YtggijcebobjghaaDoor.R10
