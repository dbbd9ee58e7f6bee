/-
  THE WALK of GraphReaches.
-/
import Derived.Test.YtggijcebobjghaaDoorQReaches2
import Derived.BigRegion
set_option linter.unusedVariables false
set_option linter.unusedSimpArgs false
set_option maxRecDepth 100000
namespace Go.Proofs.YtggijcebobjghaaDoor.L10
open Go.RowKit Go.Proofs.YtggijcebobjghaaDoor.Wd Go.Proofs.YtggijcebobjghaaDoor.Hp Go.Proofs.YtggijcebobjghaaDoor.Gp Go.Proofs.YtggijcebobjghaaDoor.Sm Go.Proofs.YtggijcebobjghaaDoor.Gr Go.Proofs.YtggijcebobjghaaDoor.Own
def swp (x : Cel) : Cel := ⟨x.k, x.c, x.b, x.a⟩
theorem swp_in {x : Cel} (h : InR x) : InR (swp x) := ⟨h.1, h.2.1, h.2.2.1, h.2.2.2.1, h.2.2.2.2.2, h.2.2.2.2.1⟩
/-- The owner's cells, the first j of them turned. -/
structure SwS (h : List Cel) (j : Nat) (arr : Array Value) : Prop where
  get : ∀ i t, i < h.length → t < 4 → arr[i * 4 + t]? = (celV (if i < j then swp (h.getD i z) else h.getD i z))[t]?
theorem SwS.start (h : List Cel) : SwS h 0 (flat (h ++ [mk1, mk2])).toArray := ⟨fun i t hi ht => by
  rw [List.getElem?_toArray, flat_get _ i t (by simp; omega) ht]
  rw [if_neg (by omega), show (h ++ [mk1, mk2]).getD i z = h.getD i z by simp [List.getD, List.getElem?_append_left hi]]⟩
theorem SwS.next {h : List Cel} {j : Nat} {arr : Array Value} (k : SwS h j arr) (hi : j < h.length) : SwS h (j + 1) ((arr.setIfInBounds (j * 4 + 2) (.int .u64 (h.getD j z).b)).setIfInBounds (j * 4 + 3) (.int .u64 (h.getD j z).a)) := ⟨fun m t hm ht => by
  have hs3 : j * 4 + 3 < arr.size := by
    have := k.get j 3 hi (by omega)
    rw [show (celV (if j < j then swp (h.getD j z) else h.getD j z))[3]? = some (.int .u64 (h.getD j z).b) by rw [if_neg (by omega)]; rfl] at this
    exact (Array.getElem?_eq_some_iff.1 this).1
  rw [Array.getElem?_setIfInBounds, Array.getElem?_setIfInBounds]
  by_cases e : m = j
  · subst e
    rcases (show t = 0 ∨ t = 1 ∨ t = 2 ∨ t = 3 by omega) with rfl | rfl | rfl | rfl
    · rw [if_neg (by omega), if_neg (by omega), k.get m 0 hm (by omega), if_neg (by omega), if_pos (by omega)]; rfl
    · rw [if_neg (by omega), if_neg (by omega), k.get m 1 hm (by omega), if_neg (by omega), if_pos (by omega)]; rfl
    · rw [if_neg (by omega), if_pos rfl, if_pos (by omega), if_pos (by omega)]; rfl
    · rw [if_pos rfl, if_pos (by simp; omega), if_pos (by omega)]; rfl
  · rw [if_neg (by omega), if_neg (by omega), k.get m t hm ht]
    by_cases e3 : m < j
    · rw [if_pos e3, if_pos (by omega)]
    · rw [if_neg e3, if_neg (by omega)]⟩
theorem SwS.rd {h : List Cel} {arr : Array Value} {w : World} {q : Nat} (k : SwS h h.length arr) (hh : w.heap[q]? = some (.cells arr 55 (0, 0))) : RdF w (some ⟨q, 0, none⟩) ((h.map swp).length * 4) (flat (h.map swp)) [] :=
  ⟨flat_len _, .inr ⟨q, 0, rfl, by simp, fun m hm => by
    rw [List.length_map] at hm
    have e : m = m / 4 * 4 + m % 4 := by omega
    have h4 : m % 4 < 4 := Nat.mod_lt _ (by omega)
    have hl : m / 4 < h.length := by omega
    have hf := flat_get (h.map swp) (m / 4) (m % 4) (by simpa using hl) h4
    have hg := k.get (m / 4) (m % 4) hl h4
    rw [← e] at hf hg
    rw [Nat.zero_add, cell_at hh, hg, hf, if_pos hl]
    rw [show (h.map swp).getD (m / 4) z = swp (h.getD (m / 4) z) by simp [List.getD, hl]]⟩⟩
/-- Where old blocks have been written, the owners' books begin anew. -/
theorem rebase {w0 w w' : World} {O : Nat → Nat} {T : List Nat} (h : G w0 w O) (hc : Ch T w w') : ∃ u : World, u.heap.size = w0.heap.size ∧ G u w' O ∧ ∀ x : World, Ch [] x w' → x.heap.size ≤ w0.heap.size → Ch [] x u := by
  have h1 := h.ch.size
  have h2 := hc.size
  have hs : (w'.heap.extract 0 w0.heap.size).size = w0.heap.size := by simp; omega
  have hb : ∀ k, k < w0.heap.size → (w'.heap.extract 0 w0.heap.size)[k]? = w'.heap[k]? := fun k hk => by
    rw [Array.getElem?_extract]
    rw [if_pos (by omega)]
    simp
  refine ⟨{ w' with heap := w'.heap.extract 0 w0.heap.size }, hs, ⟨⟨rfl, rfl, rfl, by show (w'.heap.extract 0 w0.heap.size).size ≤ _; omega, fun k hk _ => (hb k (by rw [← hs]; exact hk)).symm⟩, fun x hx => ?_⟩, fun x hx hxs => ⟨hx.os, hx.tape, hx.output, by show _ ≤ (w'.heap.extract 0 w0.heap.size).size; omega, fun k hk hn => (hb k (by omega)).trans (hx.block k hk hn)⟩⟩
  have := h.ow x hx
  refine ⟨?_, by omega⟩
  show (w'.heap.extract 0 w0.heap.size).size ≤ x
  omega
theorem rdF_ofG {w : World} {ao : Option Addr} {m : Nat} {xs : List Value} (h : Hp.Rd w ao m xs) : RdF w ao m xs [] := ⟨h.1, h.2.imp id fun ⟨b, off, e, hj⟩ => ⟨b, off, e, by simp, hj⟩⟩
theorem RdF.rdG {w : World} {ao : Option Addr} {m : Nat} {xs : List Value} {T : List Nat} (h : RdF w ao m xs T) : Hp.Rd w ao m xs := ⟨h.1, h.2.imp id fun ⟨b, off, e, _, hj⟩ => ⟨b, off, e, hj⟩⟩
set_option maxHeartbeats 4000000 in
theorem GraphReaches_any (w : World) (ao aw : Option Addr) (cap cw : Nat) (h : List Cel) (ws : List Int) (hr : RdF w ao (h.length * 4) (flat h) []) (hrw : RdF w aw ws.length (ints .u64 ws) []) (hh : ∀ x ∈ h, InR x) (hu : ∀ v ∈ ws, Gp.u64 v) (hb : Bnd w) (hn : h.length ≤ 140737488351232) (hm : ws.length ≤ 140737488351232) (hcw : ws.length ≤ cw ∧ cw ≤ maxLen) :
    Calls Tryd.prog 4 #[.slice ao h.length cap, .slice aw ws.length cw] w fun e w' => e = .returned (.bool true) ∧ Ch [] w w' := by
  by_cases hbig : 100000 < h.length + ws.length
  · have hbI : (100000 : Int) < (h.length : Int) + (ws.length : Int) := by omega
    clear hr hrw hh hu hb hbig hcw
    generalize h.length = n at *
    generalize ws.length = m at *
    go_enter Tryd.func4, Tryd.ntmps4
    go_wp2_with fail
    go_ret
    exact ⟨rfl, Ch.refl _ _⟩
  · have hbI : ¬ (100000 : Int) < (h.length : Int) + (ws.length : Int) := by omega
    have hn2 : h.length ≤ 100000 := by omega
    have hm2 : ws.length ≤ 100000 := by omega
    clear hn hm hbig
    have K := known_any w hb
    have HLC := Lib.hid (fun (w1 : World) (c : Ch [] w w1) => LentCells_any w1 ao h.length cap h (by omega) rfl (hr.ch c (by simp)))
    have HLW := Lib.hid (fun (w1 : World) (c : Ch [] w w1) => LentWords_any w1 aw ws.length cw ws (by omega) (hrw.ch c (by simp)))
    have HR := Lib.hid hr
    have HRW := Lib.hid hrw
    have HH := Lib.hid hh
    have HU := Lib.hid hu
    have HB := Lib.hid hb
    have HCW := Lib.hid hcw
    clear hr hrw hh hu hb hcw
    obtain ⟨n, hnl⟩ : ∃ n, n = h.length := ⟨_, rfl⟩
    obtain ⟨m, hml⟩ : ∃ m, m = ws.length := ⟨_, rfl⟩
    have HN := Lib.hid hnl
    have HM := Lib.hid hml
    rw [← hnl] at HLC hn2 hbI HR ⊢
    rw [← hml] at HLW hm2 hbI HRW HCW ⊢
    clear hnl hml
    go_enter Tryd.func4, Tryd.ntmps4
    go_wp2_with fail
    refine K.mono ?_
    rintro e w2 ⟨rfl, c2⟩
    have H2 := Lib.hid c2
    have L := HLC.out w2 c2
    clear K c2
    go_wp2_with fail
    refine L.mono ?_
    rintro e w3 ⟨qc, rfl, g1, g2, g3⟩
    have H3 := Lib.hid (H2.out.trans' g2)
    have HQ3 := Lib.hid g1
    have HQ3L := Lib.hid (Nat.le_trans H2.out.size g3)
    have L := HLW.out w3 H3.out
    clear g1 g2 g3
    go_wp2_with fail
    refine L.mono ?_
    rintro e w4 ⟨qr, rfl, g1, g2, g3⟩
    have H4 := Lib.hid (H3.out.trans' g2)
    have HQC := Lib.hid (g2.heap HQ3.out (by simp))
    have HQR := Lib.hid g1
    have HQL : Hid (w.heap.size ≤ qc ∧ qc < qr ∧ qr < w4.heap.size) := Lib.hid (by have h1 := HQ3L.out; have h2 := lt_of HQ3.out; have h3 := lt_of g1; omega)
    clear L g1 g2 g3 HQ3 HQ3L H3 H2 HLC HLW
    have HBN := Lib.hid (Bk4.new (show G w4 w4 (fun _ => 0) from ⟨Ch.refl _ _, fun x hx => absurd rfl hx⟩))
    obtain ⟨bp, hbp⟩ : ∃ bp, bp = w4.heap.size := ⟨_, rfl⟩
    rw [← hbp] at HBN
    have HRC := Lib.hid (fun (w1 : World) (O : Nat → Nat) (k : Nat) (hg : G w4 w1 O) (hb : Bk4 w1 O bp k k k k) (hk : k ≤ 100) => reaches_any hg hb hk (some ⟨qc, 0, none⟩) (some ⟨qr, 0, none⟩) ao aw (n + 2) (m + 2) cap cw h ws m (by rw [← HN.out]; omega) (by omega) HM.out.symm (LentCs.rd HQC.out) (by have := rdF_ofG (LentWs.rd HQR.out); rw [← HM.out] at this; exact this) (by have := HR.out.ch H4.out (by simp) (T' := []); rw [← HN.out]; exact this) (HRW.out.ch H4.out (by simp)) HH.out HU.out (Bnd.ch HB.out H4.out (by simp)))
    rw [← HN.out] at HRC
    go_wp2_with fail
    rw [← hbp]
    clear hbp
    go_loopw [9] (fun i wr => ∃ (k : Nat) (O : Nat → Nat), i = .int .i64 k ∧ k ≤ 2 ∧ G w4 wr O ∧ Bk4 wr O bp k k k k) (fun i _ => 2 - (intOf i).toNat)
    case atStart => exact ⟨0, _, rfl, by omega, HBN.out.1, HBN.out.2⟩
    case round =>
      obtain ⟨k, O, rfl, hk, hgg, hbk⟩ := hrel
      have HG := Lib.hid hgg
      have HBK := Lib.hid hbk
      clear HBN
      by_cases hlt : k < 2
      · as_aux_lemma =>
        have ltI : (k : Int) < 2 := by omega
        have A := HRC.out wr O k hgg hbk (by omega)
        clear hgg hbk
        go_wp2_with fail
        refine A.mono ?_
        rintro e w6 ⟨rfl, O', g1, g2⟩
        have G1 := Lib.hid g1
        have G2 := Lib.hid g2
        clear A g1 g2
        go_wp2_with fail
        go_roundw
        case rel => exact ⟨k + 1, O', by go_num, by omega, G1.out, G2.out⟩
        case measure => simp [intOf]; omega
      · as_aux_lemma =>
        have ltI : ¬ (k : Int) < 2 := by omega
        have HRZ : Hid (∀ x, O x ≠ 0 → w4.heap.size ≤ x) := Lib.hid (fun x hx => (HG.out.ow x hx).1)
        have CW := Lib.hid (H4.out.trans' hgg.ch)
        have WC := WholeCells_any wr qc ao n cap h (by omega) HN.out.symm (hgg.ch.heap HQC.out (by simp)) (RdF.rdG (HR.out.ch CW.out (by simp) (T' := [])))
        clear hgg hbk HRC
        go_wp2_with fail
        refine WC.mono ?_
        rintro e wd ⟨rfl, d, rfl⟩
        have CD : Hid (Ch [] wr (wr.drewN d)) := Lib.hid ((Ch.refl _ _).drewN d)
        clear WC
        generalize wr.drewN d = wd at *
        have WW := WholeWords_any wd qr aw m cw ws (by omega) HCW.out.1 HCW.out.2 HM.out.symm ((HG.out.ch.trans' CD.out).heap HQR.out (by simp)) (RdF.rdG (HRW.out.ch (CW.out.trans' CD.out) (by simp) (T' := [])))
        go_wp2_with fail
        refine WW.mono ?_
        rintro e we ⟨rfl, d2, rfl⟩
        have CE : Hid (Ch [] wr (wd.drewN d2)) := Lib.hid (CD.out.drewN d2)
        clear WW CD
        generalize wd.drewN d2 = we at *
        have HGE := Lib.hid (HG.out.step CE.out (by simp))
        have HBE := Lib.hid (HBK.out.ch CE.out)
        clear HG HBK CE CW
        go_wp2_with fail
        go_loopw [12] (fun i wx => ∃ (j : Nat) (arr : Array Value), i = .int .i64 j ∧ j ≤ n ∧ wx.heap[qc]? = some (.cells arr 55 (0, 0)) ∧ arr.size = (n + 2) * 4 ∧ SwS h j arr ∧ Ch [qc] we wx) (fun i _ => n - (intOf i).toNat)
        case atStart => exact ⟨0, _, rfl, by omega, HGE.out.ch.heap HQC.out (by simp), by simp [flat_len, ← HN.out], SwS.start h, Ch.refl _ _⟩
        case round =>
          obtain ⟨j, arr, rfl, hj, hh0, hsz, hrec, hcx⟩ := hrel
          have HA := Lib.hid hh0
          have HSZ := Lib.hid hsz
          have HRE := Lib.hid hrec
          have HCX := Lib.hid hcx
          by_cases hlt : j < n
          · as_aux_lemma =>
            have hjh : j < h.length := by rw [← HN.out]; exact hlt
            have ltJ : (j : Int) < n := by omega
            have hA : ∀ t, t < 4 → wr.cell? ⟨qc, j * 4 + t, none⟩ = (celV (h.getD j z))[t]? := fun t ht => by
              rw [cell_at hh0, hrec.get j t hjh ht, if_neg (by omega)]
            have d2 := hA 2 (by omega)
            have d3 := hA 3 (by omega)
            have f2 := free_at (i := j * 4 + 2) hh0
            have f3 := free_at (i := j * 4 + 3) hh0
            have NX := Lib.hid (hrec.next hjh)
            generalize h.getD j z = x at *
            obtain ⟨xk, xc, xa, xb⟩ := x
            simp only at NX
            simp only [celV, List.getElem?_cons_zero, List.getElem?_cons_succ, Nat.add_zero] at d2 d3
            clear hh0 hrec hcx hjh hA hsz
            go_wp2_with fail
            go_region
            all_goals
              go_wp2_with fail
              go_roundw
              case rel => exact ⟨j + 1, _, by go_num, by omega, heap_set (heap_set HA.out _) _, by simpa using HSZ.out, NX.out, ((HCX.out.setCell _ _ (.inl (by simp))).setCell _ _ (.inl (by simp))).drew⟩
              case measure => simp [intOf]; omega
          · as_aux_lemma =>
            obtain rfl : n = j := by omega
            have ltJ : ¬ (n : Int) < n := by omega
            have hsw : SwS h h.length arr := by rw [← HN.out]; exact hrec
            obtain ⟨u, hu1, hu2, hu3⟩ := rebase HGE.out hcx
            have CWR : Hid (Ch [] w wr) := Lib.hid ((H4.out.trans' HGE.out.ch).trans hcx (fun x hx => .inr (by simp at hx; subst hx; have := HQL.out; omega)))
            have hOz : O qc = 0 ∧ O qr = 0 := ⟨Decidable.byContradiction fun hne => by have := HRZ.out qc hne; have := HQL.out; omega, Decidable.byContradiction fun hne => by have := HRZ.out qr hne; have := HQL.out; omega⟩
            have HOZ := Lib.hid hOz
            have KX2 := HBE.out.keep hcx (Ext.refl O) (fun x hx => by simp at hx; subst hx; rw [hOz.1]; omega)
            have hqrw : LentWs wr qr ws := hcx.heap (HGE.out.ch.heap HQR.out (by simp)) (by have := HQL.out; simp; omega)
            have hlu : ∀ q, q < w4.heap.size → ∀ o, wr.heap[q]? = some o → u.heap[q]? = some o := fun q hq o ho => (hu2.ch.block q (by omega) (by simp)).symm.trans ho
            have hq1 : LentWs u qr ws := hlu qr (by have := HQL.out; omega) _ hqrw
            have hc1 : u.heap[qc]? = some (.cells arr 55 (0, 0)) := hlu qc (by have := HQL.out; omega) _ HA.out
            have R1 := SwS.rd hsw hc1
            have R2 : RdF u (some ⟨qr, 0, none⟩) m (ints .u64 ws) [] := by have := rdF_ofG (LentWs.rd hq1); rw [← HM.out] at this; exact this
            have CU := Lib.hid (hu3 w CWR.out (by have := H4.out.size; omega))
            have A := reaches_any hu2 KX2 (by omega) (some ⟨qc, 0, none⟩) (some ⟨qr, 0, none⟩) (some ⟨qc, 0, none⟩) (some ⟨qr, 0, none⟩) (n + 2) (m + 2) (n + 2) (m + 2) (h.map swp) ws m (by rw [List.length_map, ← HN.out]; omega) (by omega) HM.out.symm R1 R2 R1 R2 (fun x hx => by obtain ⟨y, hy, rfl⟩ := List.mem_map.1 hx; exact swp_in (HH.out y hy)) HU.out (Bnd.ch HB.out CU.out (by simp))
            rw [List.length_map, ← HN.out] at A
            have HUS := Lib.hid hu1
            have HLU := Lib.hid (And.intro hc1 hq1)
            clear R1 R2 hh0 hrec hcx hsw hu2 KX2 hqrw hlu hq1 hc1 hOz hsz hu1 hu3
            go_wp2_with fail
            refine A.mono ?_
            rintro e w9 ⟨rfl, O', g1, g2⟩
            have G1 := Lib.hid g1
            have G2 := Lib.hid g2
            have SP := SpoilCells_any w9 qc n arr (by omega) HSZ.out (g1.ch.heap HLU.out.1 (by simp))
            clear A g1 g2
            go_wp2_with fail
            refine SP.mono ?_
            rintro e wa ⟨rfl, ca⟩
            have CA := Lib.hid ca
            have SP := SpoilWords_any wa qr m ws (by omega) HM.out.symm (ca.heap (G1.out.ch.heap HLU.out.2 (by simp)) (by have := HQL.out; simp; omega))
            clear ca
            go_wp2_with fail
            refine SP.mono ?_
            rintro e wb ⟨rfl, cb⟩
            have CB : Hid (Ch [qc, qr] w9 wb) := Lib.hid ((CA.out.mono (by simp)).trans' (cb.mono (by simp)))
            have hz9 : ∀ x, x ∈ [qc, qr] → O' x = 0 := fun x hx => Decidable.byContradiction fun hne => by
              have h1 := (G1.out.ow x hne).1
              have h2 := HUS.out
              have h3 := HQL.out
              simp at hx
              rcases hx with rfl | rfl <;> omega
            have OW := Own_bk4 (G2.out.keep CB.out (Ext.refl O') (fun x hx => by rw [hz9 x hx]; omega)) (by omega) (by omega) (by omega) (by omega)
            clear SP cb hz9
            go_wp2_with fail
            refine OW.mono ?_
            rintro e wc ⟨rfl, T, hT, hO⟩
            have HT := Lib.hid hT
            have HO := Lib.hid hO
            clear OW hT hO
            go_wp2_with fail
            go_ret
            exact ⟨by simp, ((CU.out.trans' G1.out.ch).trans CB.out (fun x hx => .inr (by have := HQL.out; simp at hx; rcases hx with rfl | rfl <;> omega))).trans HT.out (fun x hx => .inr (by have h1 := (G1.out.ow x (by have := HO.out x hx; omega)).1; have := CU.out.size; omega))⟩
end Go.Proofs.YtggijcebobjghaaDoor.L10
