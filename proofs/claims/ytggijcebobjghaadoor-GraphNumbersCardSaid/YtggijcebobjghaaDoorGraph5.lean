/-
  THE WALK of graph.Form.
-/
import Derived.Test.YtggijcebobjghaaDoorGraph4
set_option linter.unusedVariables false
set_option linter.unusedSimpArgs false
set_option maxRecDepth 100000
namespace Go.Proofs.YtggijcebobjghaaDoor.Gr
open Go.RowKit Go.Proofs.YtggijcebobjghaaDoor.Wd Go.Proofs.YtggijcebobjghaaDoor.Hp Go.Proofs.YtggijcebobjghaaDoor.Gp Go.Proofs.YtggijcebobjghaaDoor.Sm

theorem infoCell : (Tryd.prog.info? 55).map (fun i => (i.zero, i.size, i.bytes)) = some (some (.agg #[.int .u8 0, .int .u8 0, .int .u64 0, .int .u64 0]), 4, 24) := by kernel_rfl
theorem infoWord : (Tryd.prog.info? 53).map (fun i => (i.zero, i.size, i.bytes)) = some (some (.int .u64 0), 1, 8) := by kernel_rfl
theorem run_make_ints (w : World) (n : Nat) (h : n ≤ 1000000) : (Instr.makeSlice 59 (.int .i64 (n : Int)) (.int .i64 (n : Int))).run Tryd.prog w = .ok (.slice (some ⟨w.heap.size, 0, none⟩) n n) (w.alloc (.cells (nv (List.replicate n 0)).toArray 3)) := by
  obtain ⟨i, hi, he⟩ := Option.map_eq_some_iff.1 infoInt
  simp only [Prod.mk.injEq] at he
  obtain ⟨e1, e2, e3⟩ := he
  have := run_make (P := Tryd.prog) w 59 3 i _ Tryd.underlying59 hi e1 .i64 .i64 n n (by omega) (by omega) (by rw [e3]; omega) (by omega)
  rw [this, e2]
  have e4 : (Value.int .i64 0).cells = #[.int .i64 0] := rfl
  simp only [Int.toNat_natCast]
  rw [e4, Nat.mul_one, made_one, show nv (List.replicate n 0) = List.replicate n (.int .i64 0) by simp [nv]]

def placeK (n : Nat) (l : List Nat) : Nat → List Nat
  | 0 => List.replicate n 0
  | k + 1 => (placeK n l k).set (l.getD k 0) k
theorem placeK_len (n : Nat) (l : List Nat) : ∀ k, (placeK n l k).length = n
  | 0 => by simp [placeK]
  | k + 1 => by simp [placeK, placeK_len n l k]
theorem placeK_le (n : Nat) (l : List Nat) : ∀ k c, (placeK n l k).getD c 0 ≤ k
  | 0, c => by simp only [placeK, List.getD_eq_getElem?_getD, List.getElem?_replicate]; split <;> simp
  | k + 1, c => by
    have := placeK_le n l k c
    simp only [placeK, List.getD_eq_getElem?_getD, List.getElem?_set]
    simp only [List.getD_eq_getElem?_getD] at this
    split
    · split
      · simp
      · simp
    · omega
def place (h : List Cel) (ws : List Int) : List Nat := placeK h.length (order h ws).2 (order h ws).2.length
def moved (pl : List Nat) (x : Int) : Int := if isRef x then refW (pl.getD (cellN x).toNat 0 : Nat) else x
def formC (h : List Cel) (pl : List Nat) (c : Nat) : Cel := if (h.getD c z).k = 0 then ⟨0, 0, 0, 0⟩ else ⟨(h.getD c z).k, 0, moved pl (h.getD c z).a, moved pl (h.getD c z).b⟩
def formH (h : List Cel) (ws : List Int) : List Cel := if may h ws then (order h ws).2.map (formC h (place h ws)) else []
def formW (h : List Cel) (ws : List Int) : List Int := if may h ws then ws.map (moved (place h ws)) else []
theorem Row.rdF {w : World} {e : TypeId} {sz : Nat} {v : Value} {qs : List Nat} {n : Nat} {xs : List Value} (h : Row w e sz v qs n xs) : ∃ ao cap, v = .slice ao n cap ∧ n ≤ cap ∧ RdF w ao (n * sz) xs [] := by
  obtain ⟨ao, cap, h1, h2, h3, h4, h5⟩ := h.rd
  exact ⟨ao, cap, h1, h2, h4, h5.imp id fun ⟨b, off, a, c⟩ => ⟨b, off, a, by simp, c⟩⟩
theorem nv_set (l : List Nat) (c k : Nat) : (nv l).toArray.setIfInBounds c (.int .i64 k) = (nv (l.set c k)).toArray := by
  simp [nv, List.map_set]
theorem form1_any (w : World) (x : Int) (bp pb n : Nat) (pl : List Nat) (hx : u64 x) (hp : w.heap[bp]? = some (.cells #[.slice (some ⟨pb, 0, none⟩) n n] 59 (0, 0))) (hq : w.heap[pb]? = some (.cells (nv pl).toArray 3 (0, 0))) (hl : pl.length = n) (hsm : ∀ c, pl.getD c 0 ≤ 1000000) (hb : Bnd w) (hok : isRef x = true → (cellN x).toNat < n) :
    Calls Tryd.prog 72 #[.int .u64 x, .pointer (some ⟨bp, 0, none⟩)] w fun e w' => e = .returned (.int .u64 (moved pl x)) ∧ w' = w := by
  have C := Wd.Cell_any w x hx.1 hx.2 hb
  have hr := cellN_range x
  have a1 := cell_at (i := 0) hp
  simp only [List.getElem?_toArray, List.getElem?_cons_zero] at a1
  unfold moved
  cases href : isRef x
  · rw [href] at C
    clear hx hp hq hl hsm hb hok href
    generalize cellN x = c at *
    go_enter Tryd.func72, Tryd.ntmps72
    go_wp2_with fail
    refine C.mono ?_
    rintro e w2 ⟨rfl, rfl⟩
    go_wp2_with fail
    go_ret
    exact ⟨rfl, rfl⟩
  · rw [href] at C
    have hc := hok href
    obtain ⟨c, hcc⟩ : ∃ c, c = (cellN x).toNat := ⟨_, rfl⟩
    rw [← hcc] at hc ⊢
    have e1 : cellN x = (c : Int) := by omega
    rw [e1] at C
    have a2 := cell_at (i := c) hq
    rw [List.getElem?_toArray, nv_at _ _ (by omega)] at a2
    have h3 := hsm c
    have R := Wd.Ref_any w (pl.getD c 0 : Nat) (by omega) (by omega) hb
    have ltI : (c : Int) < n := by omega
    clear hx hp hq hl hsm hb hok href e1 hcc hr
    generalize pl.getD c 0 = p at *
    simp only [if_true]
    generalize refW (p : Int) = rp at *
    go_enter Tryd.func72, Tryd.ntmps72
    go_wp2_with fail
    refine C.mono ?_
    rintro e w2 ⟨rfl, rfl⟩
    go_wp2_with fail
    refine R.mono ?_
    rintro e w2 ⟨rfl, rfl⟩
    go_wp2_with fail
    go_ret
    exact ⟨rfl, rfl⟩

def FormPost (h : List Cel) (ws : List Int) (w : World) (en : Ending) (w' : World) : Prop :=
  ∃ (vx : Value) (qx : List Nat) (vy : Value) (qy : List Nat), en = .returned (.tuple #[vx, vy, .int .i64 (gErr h ws)]) ∧ Row w' 55 4 vx qx (formH h ws).length (flat (formH h ws)) ∧ Row w' 53 1 vy qy (formW h ws).length (ints .u64 (formW h ws)) ∧ Ch [] w w' ∧ (∀ q ∈ qx, w.heap.size ≤ q) ∧ (∀ q ∈ qy, w.heap.size ≤ q) ∧ ∀ q ∈ qx, q ∉ qy
/-- The place list that is being written, in blocks of its own. -/
structure PL (bp pb n : Nat) (w : World) (pl : List Nat) : Prop where
  p : w.heap[bp]? = some (.cells #[.slice (some ⟨pb, 0, none⟩) n n] 59 (0, 0))
  q : w.heap[pb]? = some (.cells (nv pl).toArray 3 (0, 0))
theorem PL.ch {bp pb n : Nat} {w w' : World} {pl : List Nat} (h : PL bp pb n w pl) (hc : Ch [] w w') : PL bp pb n w' pl := ⟨hc.heap h.p (by simp), hc.heap h.q (by simp)⟩
theorem orderL_inv {h : List Cel} {ws : List Int} (hm : may h ws = true) : ∀ (k i : Nat) (s : St), Inv h.length s → Inv h.length (orderL h k i s)
  | 0, _, s, hs => hs
  | k + 1, i, s, hs => by
    rw [orderL]; split
    · next hi => exact orderL_inv hm k (i + 1) _ (each_all (fun s c h1 h2 => h1.meet c h2) _ _ hs (may_cells hm _ (inv_lt hs i hi)))
    · exact hs
theorem order_inv {h : List Cel} {ws : List Int} (hm : may h ws = true) : Inv h.length (order h ws) :=
  orderL_inv hm _ _ _ (each_all (fun s c h1 h2 => h1.meet c h2) _ _ (Inv.start _) (may_roots hm))
theorem take_snoc {α : Type} (l : List α) (j : Nat) (d : α) (h : j < l.length) : l.take (j + 1) = l.take j ++ [l.getD j d] := by
  rw [List.take_succ_eq_append_getElem h]; simp [List.getD, h]
theorem moved_u {pl : List Nat} {x : Int} (h : u64 x) : u64 (moved pl x) := by
  unfold moved; split
  · exact mkW_range _ _
  · exact h
def formL (h : List Cel) (pl : List Nat) (l : List Nat) (j : Nat) : List Value := flat ((l.take j).map (formC h pl))
theorem formL_snoc (h : List Cel) (pl : List Nat) (l : List Nat) (j : Nat) (hj : j < l.length) : formL h pl l (j + 1) = formL h pl l j ++ celV (formC h pl (l.getD j 0)) := by
  unfold formL
  rw [take_snoc l j 0 hj, List.map_append, flat_append]
  simp [flat]
def movL (pl : List Nat) (ws : List Int) (j : Nat) : List Value := ints .u64 ((ws.take j).map (moved pl))
theorem movL_snoc (pl : List Nat) (ws : List Int) (j : Nat) (hj : j < ws.length) : movL pl ws (j + 1) = movL pl ws j ++ [.int .u64 (moved pl (ws.getD j 0))] := by
  unfold movL
  rw [take_snoc ws j 0 hj, List.map_append]
  simp [ints]
section
variable (w : World) (ao : Option Addr) (cap : Nat) (h : List Cel) (aw : Option Addr) (m cw : Nat) (ws : List Int)
set_option maxHeartbeats 4000000 in
theorem Form_any (hn : h.length ≤ 1000000) (hm : m ≤ 1000000)
    (hr : RdF w ao (h.length * 4) (flat h) []) (hrw : RdF w aw m (ints .u64 ws) []) (hh : ∀ x ∈ h, InR x) (hu : ∀ v ∈ ws, u64 v) (hb : Bnd w) :
    Calls Tryd.prog 26 #[.slice ao h.length cap, .slice aw m cw] w (FormPost h ws w) := by
  have M := may_any w ao cap h aw m cw ws hn hm hr hrw hh hu hb
  cases hmay : may h ws
  · rw [hmay] at M
    have P : ∀ w', Ch [] w w' → FormPost h ws w (.returned (.tuple #[.slice none 0 0, .slice none 0 0, .int .i64 100])) w' := fun w' hc => by
      unfold FormPost gErr formH formW; rw [hmay]
      exact ⟨_, [], _, [], rfl, Row.nil _ _ _ _, Row.nil _ _ _ _, hc, by simp, by simp, by simp⟩
    have HP := Lib.hid P
    generalize FormPost h ws w = R at *
    clear hr hrw hh hu hb P hmay
    go_enter Tryd.func26, Tryd.ntmps26
    go_wp2_with fail
    refine M.mono ?_
    rintro e w2 ⟨rfl, h2⟩
    go_wp2_with fail
    go_ret3
    exact HP.out _ h2
  · rw [hmay] at M
    have O := fun w2 (hc : Ch [] w w2) => order_any w2 ao cap h aw m cw ws hn hm (hr.ch hc (by simp)) (hrw.ch hc (by simp)) hh hu (Bnd.ch hb hc (by simp)) hmay
    have HO := Lib.hid O
    have HR := Lib.hid hr
    have HRW := Lib.hid hrw
    have HB := Lib.hid hb
    have HHH := Lib.hid hh
    have HU := Lib.hid hu
    have HMY := Lib.hid hmay
    obtain ⟨R, hR⟩ : ∃ R, R = FormPost h ws w := ⟨_, rfl⟩
    have HRR := Lib.hid hR
    rw [← hR]
    obtain ⟨n, hnl⟩ : ∃ n, n = h.length := ⟨_, rfl⟩
    have hn' : n ≤ 1000000 := by rw [hnl]; exact hn
    have hmk : ∀ w : World, _ := fun w => run_make_ints w n hn'
    have HN := Lib.hid hnl
    rw [← hnl] at M ⊢
    clear hr hrw hh hu hb hmay O hR hnl
    go_enter Tryd.func26, Tryd.ntmps26
    go_wp2_with fail
    refine M.mono ?_
    rintro e w2 ⟨rfl, h2⟩
    have O := HO.out w2 h2
    rw [← HN.out] at O
    have H2 := Lib.hid h2
    clear M HO h2
    go_wp2_with fail
    refine O.mono ?_
    rintro e w3 ⟨v, qs, mb, rfl, g1, g2, g3, g4, g5, g6⟩
    have H3 := Lib.hid (H2.out.trans' g3)
    obtain ⟨al, cl, rfl, hcl, hrl⟩ := Row.rdF g1
    obtain ⟨l, hl⟩ : ∃ l, l = (order h ws).2 := ⟨_, rfl⟩
    obtain ⟨k, hk⟩ : ∃ k, k = l.length := ⟨_, rfl⟩
    rw [← hl] at hrl ⊢
    rw [← hk] at hrl ⊢
    have HL := Lib.hid hl
    have HK := Lib.hid hk
    have HRL := Lib.hid hrl
    clear O g1 g2 g3 g4 g5 g6 H2 hrl hl hk
    have HC0 : Hid (Ch [] w3 ((w3.alloc (.cells (nv (List.replicate n 0)).toArray 3)).alloc (.cells #[.slice (some ⟨w3.heap.size, 0, none⟩) n n] 59))) := Lib.hid (((Ch.refl _ _).alloc _).alloc _)
    have HP0 : Hid (PL (w3.heap.size + 1) w3.heap.size n ((w3.alloc (.cells (nv (List.replicate n 0)).toArray 3)).alloc (.cells #[.slice (some ⟨w3.heap.size, 0, none⟩) n n] 59)) (placeK n l 0)) := Lib.hid ⟨by
      have := heap_new (w3.alloc (.cells (nv (List.replicate n 0)).toArray 3)) (.cells #[.slice (some ⟨w3.heap.size, 0, none⟩) n n] 59); simpa using this, heap_old (heap_new w3 _)⟩
    have HLT : Hid (∀ j, j < k → l.getD j 0 < n) := Lib.hid (fun j hj => by rw [HN.out, HL.out]; exact inv_lt (order_inv HMY.out) j (by rw [← HL.out, ← HK.out]; exact hj))
    have HKN : k ≤ n := by have := (order_inv HMY.out).le; rw [← HL.out, ← HK.out, ← HN.out] at this; exact this
    clear hcl
    go_wp2_with fail
    go_loopw [35] (fun i wr => ∃ j : Nat, i = .int .i64 j ∧ j ≤ k ∧ PL (w3.heap.size + 1) w3.heap.size n wr (placeK n l j) ∧ Ch [] w3 wr) (fun i _ => k - (intOf i).toNat)
    case atStart => exact ⟨0, rfl, by omega, HP0.out, HC0.out⟩
    case round =>
      obtain ⟨j, rfl, hjk, hpl, hc⟩ := hrel
      have HC := Lib.hid hc
      have HPL := Lib.hid hpl
      clear HP0 HC0
      by_cases hlt : j < k
      · have hcn := HLT.out j hlt
        obtain ⟨b, off, rfl, hbn, hj⟩ := HRL.out.2.resolve_left (by omega)
        have a1 := hc.cell ((hj j (by omega)).trans (nv_at _ _ (by rw [← HK.out]; exact hlt))) (by simp)
        have a2 := cell_at (i := 0) hpl.p
        simp only [List.getElem?_toArray, List.getElem?_cons_zero] at a2
        have HS : Hid (placeK n l (j + 1) = (placeK n l j).set (l.getD j 0) j) := Lib.hid rfl
        generalize l.getD j 0 = c at *
        have a3 := cell_at (i := c) hpl.q
        rw [List.getElem?_toArray, nv_at _ _ (by rw [placeK_len]; exact hcn)] at a3
        have f3 := free_at (i := c) hpl.q
        have ltI : (c : Int) < n := by omega
        have ltJ : (j : Int) < k := by omega
        clear hj hbn hpl hc
        go_wp2_with fail
        go_roundw
        case rel =>
          refine ⟨j + 1, by go_num, by omega, ⟨?_, ?_⟩, HC.out.setCell _ _ (.inr (Nat.le_refl _))⟩
          · rw [heap_set_ne (by omega)]; exact HPL.out.p
          · rw [HS.out, ← nv_set]; exact heap_set HPL.out.q _
        case measure => simp [intOf]; omega
      · obtain rfl : k = j := by omega
        obtain ⟨w4, rfl⟩ : ∃ w4 : World, w4 = wr := ⟨_, rfl⟩
        obtain ⟨pl, hpl'⟩ : ∃ pl, pl = placeK n l k := ⟨_, rfl⟩
        rw [← hpl'] at hpl
        have HPE : Hid (pl = place h ws) := Lib.hid (by rw [hpl']; unfold place; rw [← HL.out, ← HN.out, ← HK.out])
        have hpll : pl.length = n := by rw [hpl', placeK_len]
        have hpls : ∀ c, pl.getD c 0 ≤ 1000000 := fun c => by rw [hpl']; exact Nat.le_trans (placeK_le _ _ _ _) (by omega)
        have HPL := Lib.hid hpl
        have H4 := Lib.hid (H3.out.trans' hc)
        have HLL := Lib.hid hpll
        have HLS := Lib.hid hpls
        have HRL4 := Lib.hid (HRL.out.ch (T' := []) hc (by simp))
        have HF1 : Hid (∀ (x : Int), Gp.u64 x → (isRef x = true → (cellN x).toNat < n) → ∀ wx, Ch [] w4 wx → Calls Tryd.prog 72 #[.int .u64 x, .pointer (some ⟨w3.heap.size + 1, 0, none⟩)] wx fun e w' => e = .returned (.int .u64 (moved pl x)) ∧ w' = wx) := Lib.hid (fun x hx hr wx hcx =>
          form1_any wx x _ _ n pl hx (hpl.ch hcx).p (hpl.ch hcx).q hpll hpls (Bnd.ch HB.out (H4.out.trans' hcx) (by simp)) hr)
        clear hpl' hpll hpls hpl hc HC HRL H3 hmk
        go_wp2_with fail
        go_loopw [48, 13] (fun i o wr => ∃ (j : Nat) (qs : List Nat), i = .int .i64 j ∧ j ≤ k ∧ Row wr 55 4 o qs j (formL h pl l j) ∧ Ch [] w4 wr ∧ ∀ q ∈ qs, w4.heap.size ≤ q ∧ q < wr.heap.size) (fun i o _ => k - (intOf i).toNat)
        case atStart => exact ⟨0, [], rfl, by omega, Row.nil _ _ _ _, Ch.refl _ _, by simp⟩
        case round =>
          obtain ⟨j, qs, rfl, hjk, hrow, hc, hqs⟩ := hrel
          obtain ⟨aq, cq, rfl, q1, q2, q3⟩ := hrow.rd
          clear q3
          by_cases hlt : j < k
          · have hcn := HLT.out j hlt
            have hjl : j < l.length := by rw [← HK.out]; exact hlt
            obtain ⟨b, off, rfl, hbn, hj⟩ := HRL4.out.2.resolve_left (by omega)
            have a1 := hc.cell ((hj j (by omega)).trans (nv_at _ _ hjl)) (by simp)
            have HTK := Lib.hid (formL_snoc h pl l j hjl)
            generalize l.getD j 0 = c at *
            have hch : c < h.length := by rw [← HN.out]; exact hcn
            obtain ⟨bh, offh, rfl, hbhn, hjh⟩ := HR.out.2.resolve_left (by omega)
            have hA : ∀ t, t < 4 → wr.cell? ⟨bh, offh + (c * 4 + t), none⟩ = (celV (h.getD c z))[t]? := fun t ht => by
              have h3 := (hjh (c * 4 + t) (by omega)).trans (flat_get h c t hch ht)
              rw [List.getElem?_eq_getElem (by simp [celV]; omega)] at h3 ⊢
              exact (H4.out.trans' hc).cell h3 (by simp)
            have b0 := hA 0 (by omega)
            have b1 := hA 1 (by omega)
            have b2 := hA 2 (by omega)
            have b3 := hA 3 (by omega)
            obtain ⟨i1, i2, i3, i4, i5, i6⟩ := InR.at HHH.out c hch
            have HFC : Hid (formC h pl c = if (h.getD c z).k = 0 then ⟨0, 0, 0, 0⟩ else ⟨(h.getD c z).k, 0, moved pl (h.getD c z).a, moved pl (h.getD c z).b⟩) := Lib.hid rfl
            have HOK : Hid (∀ v ∈ wordsOf h c, isRef v = true → (cellN v).toNat < n) := Lib.hid (by rw [HN.out]; exact may_cells HMY.out c hch)
            unfold wordsOf at HOK
            generalize h.getD c z = x at *
            obtain ⟨ck, cc, ca, cb⟩ := x
            simp only [celV, List.getElem?_cons_zero, List.getElem?_cons_succ, Nat.add_zero, ← Nat.add_assoc] at b0 b1 b2 b3
            simp only at i1 i2 i3 i4 i5 i6 HFC HOK
            have ltI : (c : Int) < n := by omega
            have ltJ : (j : Int) < k := by omega
            have HROW := Lib.hid hrow
            have HC := Lib.hid hc
            have HQ := Lib.hid hqs
            clear hj hbn hrow hc hqs hA hjh hbhn HRL4 HR hch hcn
            obtain ⟨i0, hi, he⟩ := Option.map_eq_some_iff.1 infoCell
            simp only [Prod.mk.injEq] at he
            obtain ⟨hz0, hz1, hz2⟩ := he
            have hlen : j ≤ 1000000 := by omega
            by_cases k0 : ck = 0
            · subst k0
              have CAB := Lib.hid (((Ch.refl [] wr).alloc (.cells #[.int .u8 0, .int .u8 0, .int .u64 0, .int .u64 0] 55)).alloc (.cells #[.int .u8 0, .int .u8 0, .int .u64 0, .int .u64 0] 55))
              have HR1 := Lib.hid (HROW.out.ch CAB.out (by simp))
              have HN1 := Lib.hid (newL (w := wr.alloc (.cells #[.int .u8 0, .int .u8 0, .int .u64 0, .int .u64 0] 55)) (b := wr.heap.size + 1) (by simp) [.int .u8 0, .int .u8 0, .int .u64 0, .int .u64 0] 55)
              clear HROW
              go_wp2_with (at_builtin; go_loud (refine wpList_append_row _ rfl _ _ 23 rfl 55 i0 _ 4 24 Tryd.underlying23 hi hz0 hz1 hz2 rfl (by decide) rfl HR1.out ⟨wr.heap.size + 1, 0, none⟩ 1 1 [.int .u8 0, .int .u8 0, .int .u64 0, .int .u64 0] rfl rfl HN1.out (one4 _ _ _ _ _ _ _ _) (by unfold maxLen; omega) (by omega) ?_))
              intro v' w1 qs' hr4 hc4 hq4
              have HR4 := Lib.hid hr4
              have HC4 := Lib.hid hc4
              have HQ4 := Lib.hid hq4
              obtain ⟨ao4, cap4, rfl, _⟩ := hr4.rd
              clear hr4 hc4 hq4
              go_wp2_with fail
              go_roundw
              case rel =>
                refine ⟨j + 1, qs', by go_num, by omega, ?_, (HC.out.trans' CAB.out).trans HC4.out (fun x hx => .inr (HQ.out x hx).1), fun q hq => ?_⟩
                · rw [HTK.out, HFC.out, if_pos trivial]; exact HR4.out
                · have s1 := CAB.out.size
                  have s2 := HC4.out.size
                  have s3 := HC.out.size
                  rcases HQ4.out with e | ⟨q', e, h3, h4⟩
                  · rw [e] at hq; have := HQ.out q hq; omega
                  · rw [e] at hq; simp at hq; subst hq; exact ⟨by omega, h4⟩
              case measure => simp [intOf]; omega
            · rw [if_neg k0] at HOK
              have okA := HOK.out ca (by simp)
              have okB := HOK.out cb (by simp)
              have CA := Lib.hid ((Ch.refl [] wr).alloc (.cells #[.int .u8 ck, .int .u8 0, .int .u64 0, .int .u64 0] 55))
              have MA := moved_u (pl := pl) i5
              have MB := moved_u (pl := pl) i6
              have k0' : (ck != 0) = true := by simpa using k0
              go_wp2_with fail
              have d2 := CA.out.cell b2 (by simp)
              have d3 := CA.out.cell b3 (by simp)
              have hn := heap_new wr (.cells #[.int .u8 ck, .int .u8 0, .int .u64 0, .int .u64 0] 55)
              have hs : (wr.alloc (.cells #[.int .u8 ck, .int .u8 0, .int .u64 0, .int .u64 0] 55)).heap.size = wr.heap.size + 1 := by simp
              generalize wr.alloc (.cells #[.int .u8 ck, .int .u8 0, .int .u64 0, .int .u64 0] 55) = wa at *
              have PA := HF1.out ca i5 okA wa.drew (HC.out.trans' CA.out.drew)
              have PB := HF1.out cb i6 okB wa.drew (HC.out.trans' CA.out.drew)
              generalize moved pl ca = ma at *
              generalize moved pl cb = mb at *
              have e2 : wa.drew.cell? ⟨bh, offh + c * 4 + 2, none⟩ = some (.int .u64 ca) := d2
              have e3 : wa.drew.cell? ⟨bh, offh + c * 4 + 3, none⟩ = some (.int .u64 cb) := d3
              have hn : wa.drew.heap[wr.heap.size]? = some (.cells #[.int .u8 ck, .int .u8 0, .int .u64 0, .int .u64 0] 55) := hn
              have hs : wa.drew.heap.size = wr.heap.size + 1 := hs
              have HCD := Lib.hid (CA.out.drew)
              clear d2 d3 b0 b1 b2 b3 CA a1
              refine wp_region_still_tail 15 (by kernel_rfl) (by kernel_rfl) ?_
              simp only [List.take_succ_cons, List.take_zero, List.drop_succ_cons, List.drop_zero]
              (iterate 6 still_step)
              still_call PA
              (iterate 6 still_step)
              still_call PB
              (iterate 1 still_step)
              refine wpStill_nil ?_
              change wpList _ _ _ _ _ wa.drew
              clear PA PB e2 e3
              generalize wa.drew = wd at *
              have m1 := heap_set (i := 2) hn (.int .u64 ma)
              have m2 := heap_set (i := 3) m1 (.int .u64 mb)
              have v2 := cell_at (i := 2) hn
              have w2 := free_at (i := 2) hn
              have v3 := cell_at (i := 3) m1
              have w3 := free_at (i := 3) m1
              have HCE := Lib.hid ((HCD.out.setCell ⟨wr.heap.size, 2, none⟩ (.int .u64 ma) (.inr (Nat.le_refl _))).setCell ⟨wr.heap.size, 3, none⟩ (.int .u64 mb) (.inr (Nat.le_refl _)))
              have hs2 : ((wd.setCell ⟨wr.heap.size, 2, none⟩ (.int .u64 ma)).setCell ⟨wr.heap.size, 3, none⟩ (.int .u64 mb)).heap.size = wr.heap.size + 1 := by simp [World.setCell, hs]
              simp at v2 v3 m2
              have y0 := cell_at (i := 0) m2
              have y1 := cell_at (i := 1) m2
              have y2 := cell_at (i := 2) m2
              have y3 := cell_at (i := 3) m2
              simp only [List.getElem?_toArray, List.getElem?_cons_zero, List.getElem?_cons_succ] at y0 y1 y2 y3
              have CAB := Lib.hid (HCE.out.alloc (.cells #[.int .u8 ck, .int .u8 0, .int .u64 ma, .int .u64 mb] 55))
              have HR1 := Lib.hid (HROW.out.ch CAB.out (by simp))
              have HN1 := Lib.hid (newL (w := ((wd.setCell ⟨wr.heap.size, 2, none⟩ (.int .u64 ma)).setCell ⟨wr.heap.size, 3, none⟩ (.int .u64 mb))) (b := wr.heap.size + 1) hs2.symm [.int .u8 ck, .int .u8 0, .int .u64 ma, .int .u64 mb] 55)
              clear m1 m2 hn HCE HCD HROW
              go_wp2_with (at_builtin; go_loud (refine wpList_append_row _ rfl _ _ 23 rfl 55 i0 _ 4 24 Tryd.underlying23 hi hz0 hz1 hz2 rfl (by decide) rfl HR1.out ⟨wr.heap.size + 1, 0, none⟩ 1 1 [.int .u8 ck, .int .u8 0, .int .u64 ma, .int .u64 mb] rfl rfl HN1.out (one4 _ _ _ _ _ _ _ _) (by unfold maxLen; omega) (by omega) ?_))
              intro v' w1 qs' hr4 hc4 hq4
              have HR4 := Lib.hid hr4
              have HC4 := Lib.hid hc4
              have HQ4 := Lib.hid hq4
              obtain ⟨ao4, cap4, rfl, _⟩ := hr4.rd
              clear hr4 hc4 hq4
              go_wp2_with fail
              go_roundw
              case rel =>
                refine ⟨j + 1, qs', by go_num, by omega, ?_, (HC.out.trans' CAB.out).trans HC4.out (fun x hx => .inr (HQ.out x hx).1), fun q hq => ?_⟩
                · rw [HTK.out, HFC.out, if_neg k0]; exact HR4.out
                · have s1 := CAB.out.size
                  have s2 := HC4.out.size
                  have s3 := HC.out.size
                  rcases HQ4.out with e | ⟨q', e, h3, h4⟩
                  · rw [e] at hq; have := HQ.out q hq; omega
                  · rw [e] at hq; simp at hq; subst hq; exact ⟨by omega, h4⟩
              case measure => simp [intOf]; omega
          · obtain rfl : k = j := by omega
            obtain ⟨w5, rfl⟩ : ∃ w5 : World, w5 = wr := ⟨_, rfl⟩
            have HF5 : Hid (∀ (x : Int), Gp.u64 x → (isRef x = true → (cellN x).toNat < n) → ∀ wx, Ch [] w5 wx → Calls Tryd.prog 72 #[.int .u64 x, .pointer (some ⟨w3.heap.size + 1, 0, none⟩)] wx fun e w' => e = .returned (.int .u64 (moved pl x)) ∧ w' = wx) := Lib.hid (fun x hx hr wx hcx => HF1.out x hx hr wx (hc.trans' hcx))
            have H5 := Lib.hid (H4.out.trans' hc)
            have HROW := Lib.hid hrow
            have HQ := Lib.hid hqs
            have HRW5 := Lib.hid (HRW.out.ch (T' := []) H5.out (by simp))
            have hwl : ws.length = m := by simpa [ints] using HRW.out.1
            have HWL := Lib.hid hwl
            have HWK : Hid (∀ v ∈ ws, isRef v = true → (cellN v).toNat < n) := Lib.hid (by rw [HN.out]; exact may_roots HMY.out)
            have s5 := hc.size
            have HS5 := Lib.hid s5
            clear hrow hc hqs hwl HRW HF1 s5 HRL4 HR
            go_wp2_with fail
            go_loopw [84, 17] (fun i o wr => ∃ (j : Nat) (qs : List Nat), i = .int .i64 j ∧ j ≤ m ∧ Row wr 53 1 o qs j (movL pl ws j) ∧ Ch [] w5 wr ∧ ∀ q ∈ qs, w5.heap.size ≤ q) (fun i o _ => m - (intOf i).toNat)
            case atStart => exact ⟨0, [], rfl, by omega, Row.nil _ _ _ _, Ch.refl _ _, by simp⟩
            case round =>
              obtain ⟨j, qs2, rfl, hjm, hrow, hc, hqs⟩ := hrel
              obtain ⟨ay, cy, rfl, q1, q2, q3⟩ := hrow.rd
              clear q3
              have HROW2 := Lib.hid hrow
              have HC := Lib.hid hc
              have HQ2 := Lib.hid hqs
              by_cases hlt : j < m
              · have hjl : j < ws.length := by rw [HWL.out]; exact hlt
                obtain ⟨b, off, rfl, hbn, hj⟩ := HRW5.out.2.resolve_left (by omega)
                have HML := Lib.hid (movL_snoc pl ws j hjl)
                have hvm : ws.getD j 0 ∈ ws := by rw [show ws.getD j 0 = ws[j] by simp [List.getD, hjl]]; exact List.getElem_mem hjl
                have a1 := hc.cell ((hj j hlt).trans (ints_get hjl)) (by simp)
                generalize ws.getD j 0 = x at *
                have F := HF5.out x (HU.out x hvm) (HWK.out x hvm) wr hc
                generalize moved pl x = mx at *
                have ltJ : (j : Int) < m := by omega
                obtain ⟨i0, hi, he⟩ := Option.map_eq_some_iff.1 infoWord
                simp only [Prod.mk.injEq] at he
                obtain ⟨hz0, hz1, hz2⟩ := he
                have CAB := Lib.hid ((Ch.refl [] wr).alloc (.cells #[.int .u64 mx] 53))
                have HR1 := Lib.hid (hrow.ch CAB.out (by simp))
                have HN1 := Lib.hid (newL (w := wr) (b := wr.heap.size) rfl [.int .u64 mx] 53)
                clear hrow hc hqs hj hbn hvm
                go_wp2_with (first | (go_at_call 72; refine F.mono ?_; rintro e w' ⟨rfl, rfl⟩) | (at_builtin; go_loud (refine wpList_append_row _ rfl _ _ 24 rfl 53 i0 _ 1 8 Tryd.underlying24 hi hz0 hz1 hz2 rfl (by decide) rfl HR1.out ⟨w'.heap.size, 0, none⟩ 1 1 [.int .u64 mx] rfl rfl HN1.out (one1 _ _) (by unfold maxLen; omega) (by omega) ?_)))
                intro v' w1 qs' hr4 hc4 hq4
                have HR4 := Lib.hid hr4
                have HC4 := Lib.hid hc4
                have HQ4 := Lib.hid hq4
                obtain ⟨ao4, cap4, rfl, _⟩ := hr4.rd
                clear hr4 hc4 hq4
                go_wp2_with fail
                go_roundw
                case rel =>
                  refine ⟨j + 1, qs', by go_num, by omega, by rw [HML.out]; exact HR4.out, (HC.out.trans' CAB.out).trans HC4.out (fun x hx => .inr (HQ2.out x hx)), fun q hq => ?_⟩
                  have s1 := CAB.out.size
                  have s3 := HC.out.size
                  rcases HQ4.out with e | ⟨q', e, h3, h4⟩
                  · rw [e] at hq; exact HQ2.out q hq
                  · rw [e] at hq; simp at hq; subst hq; omega
                case measure => simp [intOf]; omega
              · obtain rfl : m = j := by omega
                have Z : Hid (FormPost h ws w (.returned (.tuple #[.slice aq k cq, .slice ay m cy, .int .i64 0])) wr) := Lib.hid (by
                  unfold FormPost gErr formH formW
                  rw [HMY.out, ← HPE.out, ← HL.out]
                  simp only [if_true]
                  have s1 := H4.out.size
                  have s2 := HS5.out
                  refine ⟨_, qs, _, qs2, rfl, ?_, ?_, H5.out.trans' hc, fun q hq => by have := HQ.out q hq; omega, fun q hq => by have := hqs q hq; omega, fun q hq hm => by have := HQ.out q hq; have := hqs q hm; omega⟩
                  · rw [List.length_map, ← HK.out]
                    have := HROW.out.ch hc (by simp)
                    unfold formL at this
                    rwa [List.take_of_length_le (by rw [HK.out]; exact Nat.le_refl _)] at this
                  · rw [List.length_map, HWL.out]
                    unfold movL at hrow
                    rwa [List.take_of_length_le (by rw [HWL.out]; exact Nat.le_refl _)] at hrow)
                clear hrow hc hqs HROW2 HQ2 HC HF5
                go_wp2_with fail
                go_ret3
                rw [HRR.out]
                exact Z.out
end
end Go.Proofs.YtggijcebobjghaaDoor.Gr
