/-
  THE LAW BarrierShades, walked.
-/
import Derived.Test.YtlhhcocdhkbdnaaDoorShades
set_option linter.unusedVariables false
set_option linter.unusedSimpArgs false
set_option maxRecDepth 100000
namespace Go.Proofs.YtlhhcocdhkbdnaaDoor.L13
open Go.RowKit Go.Proofs.YtlhhcocdhkbdnaaDoor.Wd Go.Proofs.YtlhhcocdhkbdnaaDoor.Hp Go.Proofs.YtlhhcocdhkbdnaaDoor.Gp Go.Proofs.YtlhhcocdhkbdnaaDoor.Sm Go.Proofs.YtlhhcocdhkbdnaaDoor.Gr Go.Proofs.YtlhhcocdhkbdnaaDoor.Bp Go.Proofs.YtlhhcocdhkbdnaaDoor.Own
theorem storeL_le (p : Int) (s : Bool) (a b : Int) (h : List Cel) : (storeL p s a b h).length ≤ 2 := by
  have h1 := shadeL_len h [a]
  have h2 := shadeL_len h [a, b]
  simp only [List.length_cons, List.length_nil] at h1 h2
  unfold storeL
  split
  · split <;> omega
  · simp
theorem fillL_le (p : Int) (s : Bool) (a b : Int) (h : List Cel) : (fillL p s a b h).length ≤ 2 := by
  have h2 := shadeL_len h [a, b]
  simp only [List.length_cons, List.length_nil] at h2
  unfold fillL
  split
  · omega
  · simp
theorem rd_ofF {w : World} {ao : Option Addr} {m : Nat} {xs : List Value} {T : List Nat} (h : RdF w ao m xs T) : Hp.Rd w ao m xs := ⟨h.1, h.2.imp id fun ⟨b, off, e, _, hj⟩ => ⟨b, off, e, hj⟩⟩
theorem same_nv (w : World) (a1 a2 : Option Addr) (c1 c2 : Nat) (l : List Nat) (h1 : l.length ≤ c1) (h2 : c1 ≤ maxLen) (h3 : l.length ≤ c2) (h4 : c2 ≤ maxLen) (r1 : Hp.Rd w a1 l.length (nv l)) (r2 : Hp.Rd w a2 l.length (nv l)) :
    Calls Tryd.prog 15 #[.slice a1 l.length c1, .slice a2 l.length c2] w fun e w' => e = .returned (.bool true) ∧ ∃ d, w' = w.drewN d := by
  have Q := SameInts_any w a1 a2 _ c1 _ c2 (l.map (fun (c : Nat) => (c : Int))) (l.map (fun (c : Nat) => (c : Int))) h1 h2 h3 h4 (by rw [← nv_ints]; exact r1) (by rw [← nv_ints]; exact r2)
  simpa only [decide_true] using Q
/-- The owner's cells, the first j of them with new colours. -/
structure Rec (h : List Cel) (j : Nat) (arr : Array Value) : Prop where
  get : ∀ i t, i < h.length → t < 4 → arr[i * 4 + t]? = (celV (if i < j then recol (h.getD i z) else h.getD i z))[t]?
theorem Rec.start (h : List Cel) : Rec h 0 (flat (h ++ [mk1, mk2])).toArray := ⟨fun i t hi ht => by
  rw [List.getElem?_toArray, flat_get _ i t (by simp; omega) ht]
  rw [if_neg (by omega), show (h ++ [mk1, mk2]).getD i z = h.getD i z by simp [List.getD, List.getElem?_append_left hi]]⟩
theorem Rec.at_ {h : List Cel} {j : Nat} {arr : Array Value} (k : Rec h j arr) (i : Nat) (hi : i < h.length) (hij : i = j := by rfl) : arr[i * 4 + 1]? = some (.int .u8 (h.getD i z).c) := by
  rw [k.get i 1 hi (by omega), if_neg (by omega)]
  rfl
theorem Rec.next {h : List Cel} {j : Nat} {arr : Array Value} (k : Rec h j arr) (i : Nat) (hi : i < h.length) (hij : i = j := by rfl) : Rec h (j + 1) (arr.setIfInBounds (i * 4 + 1) (.int .u8 (((h.getD i z).c + 1) % 256 % 3))) := ⟨fun m t hm ht => by
  subst hij
  rw [Array.getElem?_setIfInBounds]
  by_cases e : i * 4 + 1 = m * 4 + t
  · obtain rfl : m = i := by omega
    obtain rfl : t = 1 := by omega
    have hs : m * 4 + 1 < arr.size := by
      have := k.at_ m hm
      exact (Array.getElem?_eq_some_iff.1 this).1
    rw [if_pos e, if_pos hs, if_pos (by omega)]
    rfl
  · rw [if_neg e, k.get m t hm ht]
    by_cases e2 : m = i
    · subst e2
      rw [if_neg (by omega), if_pos (by omega)]
      rcases (show t = 0 ∨ t = 2 ∨ t = 3 by omega) with rfl | rfl | rfl <;> rfl
    · by_cases e3 : m < i
      · rw [if_pos e3, if_pos (by omega)]
      · rw [if_neg e3, if_neg (by omega)]⟩
theorem Rec.rd {h : List Cel} {arr : Array Value} {w : World} {q : Nat} (k : Rec h h.length arr) (hh : w.heap[q]? = some (.cells arr 58 (0, 0))) : RdF w (some ⟨q, 0, none⟩) ((h.map recol).length * 4) (flat (h.map recol)) [] :=
  ⟨flat_len _, .inr ⟨q, 0, rfl, by simp, fun m hm => by
    rw [List.length_map] at hm
    have e : m = m / 4 * 4 + m % 4 := by omega
    have h4 : m % 4 < 4 := Nat.mod_lt _ (by omega)
    have hl : m / 4 < h.length := by omega
    have hf := flat_get (h.map recol) (m / 4) (m % 4) (by simpa using hl) h4
    have hg := k.get (m / 4) (m % 4) hl h4
    rw [← e] at hf hg
    rw [Nat.zero_add, cell_at hh, hg, hf, if_pos hl]
    rw [show (h.map recol).getD (m / 4) z = recol (h.getD (m / 4) z) by simp [List.getD, hl]]⟩⟩
set_option maxHeartbeats 4000000 in
theorem BarrierShades_any (w : World) (p : Int) (sc : Bool) (a b : Int) (ao : Option Addr) (cap : Nat) (h : List Cel) (hr : RdF w ao (h.length * 4) (flat h) []) (hh : ∀ x ∈ h, InR x) (ha : Gp.u64 a) (hb' : Gp.u64 b) (hb : Bnd w) (hmx : h.length ≤ maxLen) :
    Calls Tryd.prog 4 #[.agg #[.int .u8 p, .bool sc, .int .u64 a, .int .u64 b, .slice ao h.length cap]] w fun e w' => e = .returned (.bool true) ∧ Ch [] w w' := by
  by_cases hbig : 20000 < h.length
  · have C0 := Lib.hid ((Ch.refl [] w).alloc (.cells #[.int .u8 p, .bool sc, .int .u64 a, .int .u64 b, .slice ao h.length cap] 27))
    have hbI : (20000 : Int) < (h.length : Int) := by omega
    unfold maxLen at hmx
    clear hr hh ha hb' hb hbig
    generalize h.length = n at *
    go_enter Tryd.func4, Tryd.ntmps4
    go_wp2_with fail
    go_ret
    exact ⟨rfl, C0.out⟩
  · have hsm : h.length ≤ 20000 := by omega
    clear hbig hmx
    obtain ⟨W, hW⟩ : ∃ W, W = w.alloc (.cells #[.int .u8 p, .bool sc, .int .u64 a, .int .u64 b, .slice ao h.length cap] 27) := ⟨_, rfl⟩
    have C0 : Ch [] w W := by rw [hW]; exact (Ch.refl _ _).alloc _
    have hbx : W.heap[w.heap.size]? = some (.cells #[.int .u8 p, .bool sc, .int .u64 a, .int .u64 b, .slice ao h.length cap] 27 (0, 0)) := by rw [hW]; exact heap_new w _
    have K := known_any W (Bnd.ch hb C0 (by simp))
    have HBX := Lib.hid hbx
    have HC0 := Lib.hid C0
    have HR := Lib.hid hr
    have HB := Lib.hid hb
    have HLE := Lib.hid (fun (w1 : World) (h1 : Ch [] w w1) => LentCells_any w1 ao h.length cap h (by omega) rfl (hr.ch h1 (by simp)))
    have HS := Lib.hid (fun (w1 : World) (h1 : Ch [] w w1) (q : Nat) (g : List Cel) (hgl : g.length = h.length) (hgi : ∀ x ∈ g, InR x) (hrg : RdF w1 (some ⟨q, 0, none⟩) (g.length * 4) (flat g) []) => Bp.Store_any w1 (some ⟨q, 0, none⟩) (h.length + 2) g p sc a b (by omega) hrg hgi ha hb' (Bnd.ch hb h1 (by simp)))
    have HF := Lib.hid (fun (w1 : World) (h1 : Ch [] w w1) (q : Nat) (hrg : RdF w1 (some ⟨q, 0, none⟩) (h.length * 4) (flat h) []) => Bp.Fill_any w1 (some ⟨q, 0, none⟩) (h.length + 2) h p sc a b (by omega) hrg hh ha hb' (Bnd.ch hb h1 (by simp)))
    have HS13 := Lib.hid (fun (w1 : World) (h1 : Ch [] w w1) => Store13_any w1 ao cap h p sc a b (by omega) (hr.ch h1 (by simp)) hh ha hb' (Bnd.ch hb h1 (by simp)))
    have HF13 := Lib.hid (fun (w1 : World) (h1 : Ch [] w w1) => Fill13_any w1 ao cap h p sc a b (by omega) (hr.ch h1 (by simp)) hh ha hb' (Bnd.ch hb h1 (by simp)))
    have HX13 := Lib.hid (fun (w1 : World) (h1 : Ch [] w w1) (q : Nat) (g : List Cel) (hgl : g.length = h.length) (hgi : ∀ x ∈ g, InR x) (hrg : RdF w1 (some ⟨q, 0, none⟩) (g.length * 4) (flat g) []) => Store13_any w1 (some ⟨q, 0, none⟩) (h.length + 2) g p sc a b (by omega) hrg hgi ha hb' (Bnd.ch hb h1 (by simp)))
    have HH := Lib.hid hh
    have LS := storeL_le p sc a b h
    have LF := fillL_le p sc a b h
    clear hr hh ha hb' hb hbx C0
    obtain ⟨n, hn⟩ : ∃ n, n = h.length := ⟨_, rfl⟩
    have HN := Lib.hid hn
    rw [← hn] at hW hsm HBX HS HF HLE HS13 HF13 HX13 ⊢
    clear hn
    go_enter Tryd.func4, Tryd.ntmps4
    have k4 := cell_at (i := 4) HBX.out
    simp only [List.getElem?_toArray, List.getElem?_cons_zero, List.getElem?_cons_succ] at k4
    go_wp2_with fail
    rw [← hW]
    clear hW k4
    refine K.mono ?_
    rintro e w2 ⟨rfl, h2⟩
    have H2 := Lib.hid (HC0.out.trans' h2)
    have hh2 := h2.heap HBX.out (by simp)
    have k0 := cell_at (i := 0) hh2
    have k1 := cell_at (i := 1) hh2
    have k2 := cell_at (i := 2) hh2
    have k3 := cell_at (i := 3) hh2
    have k4 := cell_at (i := 4) hh2
    simp only [List.getElem?_toArray, List.getElem?_cons_zero, List.getElem?_cons_succ] at k0 k1 k2 k3 k4
    have S1 := HLE.out w2 H2.out
    clear K h2 hh2 HBX HC0
    go_wp2_with fail
    refine S1.mono ?_
    rintro e w3 ⟨q, rfl, hl, hc, hq⟩
    have HL := Lib.hid hl
    have HQ := Lib.hid hq
    have H3 := Lib.hid (H2.out.trans' hc)
    have HQL := Lib.hid (lt_of hl)
    have HG0 : Hid (G w3 w3 (fun _ => 0)) := Lib.hid ⟨Ch.refl _ _, fun x hx => absurd rfl hx⟩
    clear S1 hl hc hq k0 k1 k2 k3 k4
    go_wp2_with fail
    obtain ⟨bp, hbp⟩ : ∃ bp, bp = w3.heap.size := ⟨_, rfl⟩
    have HBN := Lib.hid (Bk.new HG0.out)
    rw [← hbp] at HBN ⊢
    clear hbp
    go_loopw [11] (fun i wr => ∃ (k : Nat) (O : Nat → Nat), i = .int .i64 k ∧ k ≤ 2 ∧ G w3 wr O ∧ Bk wr O bp (2 * k)) (fun i _ => 2 - (intOf i).toNat)
    case atStart => exact ⟨0, _, rfl, by omega, HBN.out.1, HBN.out.2⟩
    case round =>
      obtain ⟨k, O, rfl, hk, hg, hbk⟩ := hrel
      have HG := Lib.hid hg
      have HK := Lib.hid hbk
      have CR := Lib.hid (H3.out.trans' hg.ch)
      have CRG := Lib.hid hg.ch
      have HLR := Lib.hid (fun (w1 : World) (h1 : Ch [] wr w1) => (LentCs.rd (HL.out)).ch (hg.ch.trans' h1) (by simp) (T' := []))
      clear hg hbk
      by_cases hlt : k < 2
      · as_aux_lemma =>
        have ltI : (k : Int) < 2 := by omega
        have S1 := HS.out wr CR.out q h HN.out.symm HH.out (HLR.out wr (Ch.refl _ _))
        rw [← HN.out] at S1
        unfold Mk1 at S1
        go_wp2_with fail
        refine S1.mono ?_
        rintro e w5 ⟨vx, qx, rfl, rx, cx, hqx⟩
        obtain ⟨a1, c1, rfl, x1, x2, x3⟩ := Row.rdl rx
        have RX := Lib.hid rx
        have CX := Lib.hid cx
        have QX := Lib.hid hqx
        have DX := Lib.hid x3
        have S2 := HF.out w5 (CR.out.trans' cx) q (by rw [HN.out]; exact HLR.out w5 cx)
        unfold Mk1 at S2
        clear S1 rx cx hqx x3
        go_wp2_with fail
        refine S2.mono ?_
        rintro e w6 ⟨vy, qy, rfl, ry, cy, hqy⟩
        obtain ⟨a2, c2, rfl, y1, y2, y3⟩ := Row.rdl ry
        have RY := Lib.hid ry
        have CY := Lib.hid cy
        have QY := Lib.hid hqy
        have DY := Lib.hid y3
        have C6 := Lib.hid ((CR.out.trans' CX.out).trans' cy)
        have S3 := HS13.out w6 C6.out
        unfold Mk1 at S3
        clear S2 ry cy hqy y3
        go_wp2_with fail
        refine S3.mono ?_
        rintro e w7 ⟨vz, qz, rfl, rz, cz, _⟩
        obtain ⟨a3, c3, rfl, z1, z2, z3⟩ := Row.rdl rz
        have CZ := Lib.hid cz
        have T1 := same_nv w7 a1 a3 c1 c3 _ x1 x2 z1 z2 (DX.out.ch (CY.out.trans' cz)) z3
        clear S3 rz cz z3
        go_wp2_with fail
        refine T1.mono ?_
        rintro e w8 ⟨rfl, d, rfl⟩
        have C8 : Hid (Ch [] w6 (w7.drewN d)) := Lib.hid (CZ.out.drewN d)
        generalize w7.drewN d = w8 at *
        have S4 := HF13.out w8 (C6.out.trans' C8.out)
        unfold Mk1 at S4
        clear T1 CZ
        go_wp2_with fail
        refine S4.mono ?_
        rintro e w9 ⟨vt, qt, rfl, rt, ct, _⟩
        obtain ⟨a4, c4, rfl, t1, t2, t3⟩ := Row.rdl rt
        have CT := Lib.hid (C8.out.trans' ct)
        have T2 := same_nv w9 a2 a4 c2 c4 _ y1 y2 t1 t2 (DY.out.ch CT.out) t3
        clear S4 rt ct t3
        go_wp2_with fail
        refine T2.mono ?_
        rintro e w10 ⟨rfl, d2, rfl⟩
        have C10 : Ch [] w6 (w9.drewN d2) := CT.out.drewN d2
        generalize w9.drewN d2 = w10 at *
        have T3 := two_in HG.out HK.out RX.out CX.out QX.out RY.out CY.out QY.out C10 hk (by omega) (by omega)
        clear T2 C10 CT
        go_wp2_with fail
        refine T3.mono ?_
        rintro e w11 ⟨rfl, T4⟩
        clear T3
        go_wp2_with fail
        refine T4.mono ?_
        rintro e w12 ⟨rfl, O', g1, g2⟩
        have G1 := Lib.hid g1
        have G2 := Lib.hid g2
        clear T4 g1 g2
        go_wp2_with fail
        go_roundw
        case rel => exact ⟨k + 1, O', by go_num, by omega, G1.out, G2.out⟩
        case measure => simp [intOf]; omega
      · as_aux_lemma =>
        have ltI : ¬ (k : Int) < 2 := by omega
        have WC := WholeCells_any wr q ao n cap h (by omega) HN.out.symm (CRG.out.heap HL.out (by simp)) (by rw [HN.out]; exact rd_ofF (HR.out.ch CR.out (by simp) (T' := [])))
        have HOW : Hid (∀ x, O x ≠ 0 → w3.heap.size ≤ x) := Lib.hid (fun x hx => (HG.out.ow x hx).1)
        go_wp2_with fail
        refine WC.mono ?_
        rintro e wd ⟨rfl, d, rfl⟩
        have CD : Hid (Ch [] w3 (wr.drewN d)) := Lib.hid (CRG.out.drewN d)
        have KD : Hid (Bk (wr.drewN d) O bp (2 * k)) := Lib.hid (HK.out.ch ((Ch.refl _ _).drewN d))
        clear WC HG HK CR HLR
        generalize wr.drewN d = wd at *
        have HQ0 : Hid (O q = 0) := Lib.hid (Decidable.byContradiction fun hne => by have := HOW.out q hne; have := HQL.out; omega)
        go_wp2_with fail
        go_loopw [17] (fun i wx => ∃ (j : Nat) (arr : Array Value), i = .int .i64 j ∧ j ≤ n ∧ wx.heap[q]? = some (.cells arr 58 (0, 0)) ∧ Rec h j arr ∧ Ch [q] wd wx) (fun i _ => n - (intOf i).toNat)
        case atStart => exact ⟨0, _, rfl, by omega, CD.out.heap HL.out (by simp), Rec.start h, Ch.refl _ _⟩
        case round =>
          obtain ⟨j, arr, rfl, hj, hh0, hrec, hcx⟩ := hrel
          have HA := Lib.hid hh0
          have HRC := Lib.hid hrec
          have HCX := Lib.hid hcx
          by_cases hjl : j < n
          · as_aux_lemma =>
            have hjh : j < h.length := by rw [← HN.out]; exact hjl
            have g1 := (cell_at (i := j * 4 + 1) hh0).trans (hrec.at_ j hjh)
            have f1 := free_at (i := j * 4 + 1) hh0
            have ltJ : (j : Int) < n := by omega
            have NX := Lib.hid (hrec.next j hjh)
            have hi := HH.out (h.getD j z) (by rw [show h.getD j z = h[j] by simp [List.getD, hjh]]; exact List.getElem_mem hjh)
            generalize h.getD j z = x at *
            obtain ⟨xk, xc, xa, xb⟩ := x
            obtain ⟨i1, i2, i3, i4, i5, i6⟩ := hi
            simp only at g1 NX i3 i4
            clear hh0 hrec hcx hjh
            go_wp2_with fail
            go_roundw
            case rel => exact ⟨j + 1, _, by go_num, by omega, heap_set HA.out _, NX.out, HCX.out.setCell _ _ (.inl (by simp))⟩
            case measure => simp [intOf]; omega
          · as_aux_lemma =>
            have ltJ : ¬ (j : Int) < n := by omega
            have hr1 : Rec h h.length arr := by
              have hje : j = h.length := by rw [← HN.out]; omega
              rw [← hje]; exact HRC.out
            have RD := Lib.hid (fun (w1 : World) (h1 : Ch [] _ w1) => (Rec.rd hr1 HA.out).ch h1 (by simp) (T' := []))
            have CW : Hid (Ch [] w _) := Lib.hid ((H3.out.trans' CD.out).trans HCX.out (fun x hx => .inr (by simp at hx; subst hx; exact Nat.le_trans H2.out.size HQ.out)))
            have KX := Lib.hid (KD.out.keep HCX.out (Ext.refl O) (fun x hx => by simp at hx; subst hx; rw [HQ0.out]; omega))
            have hml : (h.map recol).length = n := by rw [List.length_map, HN.out]
            have S1 := HS.out _ CW.out q (h.map recol) hml (map_in HH.out) (RD.out _ (Ch.refl _ _))
            have HX := Lib.hid (fun (w1 : World) (h1 : Ch [] _ w1) => HX13.out w1 (CW.out.trans' h1) q (h.map recol) hml (map_in HH.out) (RD.out w1 h1))
            have LS2 := storeL_le p sc a b (h.map recol)
            rw [hml] at S1
            rw [hml] at HX
            unfold Mk1 at S1
            clear hh0 hrec hcx hr1 hml
            generalize storeL p sc a b (h.map recol) = l at *
            go_wp2_with fail
            refine S1.mono ?_
            rintro e w5 ⟨vx, qx, rfl, rx, cx, _⟩
            obtain ⟨a1, c1, rfl, x1, x2, x3⟩ := Row.rdl rx
            have DX := Lib.hid x3
            have CX := Lib.hid cx
            have S3 := HX.out w5 cx
            unfold Mk1 at S3
            clear S1 rx cx x3
            go_wp2_with fail
            refine S3.mono ?_
            rintro e w7 ⟨vz, qz, rfl, rz, cz, _⟩
            obtain ⟨a3, c3, rfl, z1, z2, z3⟩ := Row.rdl rz
            have CZ := Lib.hid (CX.out.trans' cz)
            have T1 := same_nv w7 a1 a3 c1 c3 _ x1 x2 z1 z2 (DX.out.ch cz) z3
            clear S3 rz cz z3
            go_wp2_with fail
            refine T1.mono ?_
            rintro e w8 ⟨rfl, d3, rfl⟩
            have C8 : Hid (Ch [] _ (w7.drewN d3)) := Lib.hid (CZ.out.drewN d3)
            generalize w7.drewN d3 = w8 at *
            have OW := Own_bk (KX.out.ch C8.out) (by omega)
            clear T1
            go_wp2_with fail
            refine OW.mono ?_
            rintro e w9 ⟨rfl, T, hT, hO⟩
            have HT := Lib.hid hT
            have HO := Lib.hid hO
            clear OW hT hO
            go_wp2_with fail
            go_ret
            exact ⟨rfl, (CW.out.trans' C8.out).trans HT.out (fun x hx => .inr (Nat.le_trans H3.out.size (HOW.out x (by rw [HO.out x hx]; omega))))⟩
end Go.Proofs.YtlhhcocdhkbdnaaDoor.L13
