/-
  THE WALK of GraphCloses.
-/
import Derived.Test.YtggijcebobjghaaDoorQCloses
import Derived.Test.YtggijcebobjghaaDoorQLaw10n
import Derived.Test.YtggijcebobjghaaDoorQJRef10b
set_option linter.unusedVariables false
set_option linter.unusedSimpArgs false
set_option maxRecDepth 100000
namespace Go.Proofs.YtggijcebobjghaaDoor.L10
open Go.RowKit Go.Proofs.YtggijcebobjghaaDoor.Wd Go.Proofs.YtggijcebobjghaaDoor.Hp Go.Proofs.YtggijcebobjghaaDoor.Gp Go.Proofs.YtggijcebobjghaaDoor.Sm Go.Proofs.YtggijcebobjghaaDoor.Gr Go.Proofs.YtggijcebobjghaaDoor.Pa Go.Proofs.YtggijcebobjghaaDoor.R10
/-- What the law asks, of a heap that may be. -/
structure Clo (h : List Cel) (ws : List Int) (B : List Bool) (L : List Nat) (D : Nat → Nat) : Prop where
  blen : B.length = h.length
  lle : L.length ≤ h.length
  llt : ∀ j, j < L.length → L.getD j 0 < h.length
  nd : ∀ j, j < L.length → L.getD j 0 ∉ L.take j
  b : ∀ c, c < h.length → (B.getD c true = true ↔ c ∈ L)
  full : markK h.length L L.length = B
  root : ∀ v ∈ ws, isRef v = true → (cellN v).toNat < h.length ∧ B.getD (cellN v).toNat true = true
  next : ∀ c ∈ L, ∀ v ∈ wordsOf h c, isRef v = true → (cellN v).toNat < h.length ∧ B.getD (cellN v).toNat true = true
  srt : ∀ i j, i ≤ j → j < L.length → D (L.getD i 0) ≤ D (L.getD j 0)
  yes : ∀ c ∈ L, pathIs h ws c = true ∧ pathE h ws c = 0 ∧ D c < h.length ∧ ∃ P, pathR h ws c = P.map (fun (c : Nat) => (c : Int)) ∧ PWay h (refs ws) c (D c) P
  same : ∀ c, c < h.length → pathIs h ws c = B.getD c true ∧ pathE h ws c = 0 ∧ (pathR h ws c).length ≤ h.length
theorem clo {h : List Cel} {ws : List Int} (hm : may h ws = true) : ∃ D, Clo h ws (order h ws).1 (order h ws).2 D := by
  have hi := ord_inv hm
  have hb := bfsF_ok hm
  have he := order_bfs hm
  have hlt := hi.mem
  have hmem : ∀ j, j < (order h ws).2.length → (order h ws).2.getD j 0 ∈ (order h ws).2 := fun j hj => Bf.getD_in _ _ hj
  have hbb : ∀ c, c < h.length → ((order h ws).1.getD c true = true ↔ c ∈ (order h ws).2) := fun c hc => (order_at hm c hc).trans (order_iff hm c).symm
  have hrea : ∀ {c}, Rea h ws c → c < h.length ∧ (order h ws).1.getD c true = true := fun hr => ⟨hr.lt hm, (order_at hm _ (hr.lt hm)).2 hr⟩
  have hok : ∀ c, c < h.length → pathOk h ws c = true := fun c hc => by unfold pathOk; rw [hm]; simp; omega
  have yes : ∀ c ∈ (order h ws).2, pathIs h ws c = true ∧ pathE h ws c = 0 ∧ (Bf.bfs (nf h) (refs ws) h.length).2 c < h.length ∧ ∃ P, pathR h ws c = P.map (fun (c : Nat) => (c : Int)) ∧ PWay h (refs ws) c ((Bf.bfs (nf h) (refs ws) h.length).2 c) P := by
    intro c hc
    have hcl := ((hlt c).1 hc).1
    rw [he] at hc
    obtain ⟨h1, P, h2, h3, h4, _⟩ := path_way hm hcl (hb.snd c hc) (fun j hj => (hb.cpl c j hj).2)
    have hp : pathIs h ws c = true := by unfold pathIs; rw [hok c hcl]; simpa using h1
    refine ⟨hp, by unfold pathE; rw [hok c hcl]; rfl, h4, P, ?_, h3⟩
    unfold pathR
    rw [if_pos hp]; exact h2
  refine ⟨(Bf.bfs (nf h) (refs ws) h.length).2, hi.len, hi.le, fun j hj => ((hlt _).1 (hmem j hj)).1, fun j hj hx => ?_, hbb, markK_order hm, fun v hv hr => hrea (.src v hv hr), fun c hc v hv hr => hrea (.step c v ((order_iff hm c).1 hc) hv hr), fun i j hij hj => ?_, yes, fun c hc => ?_⟩
  · obtain ⟨q, hq, e⟩ := List.getElem_of_mem hx
    rw [List.length_take] at hq
    rw [List.getElem_take] at e
    exact List.pairwise_iff_getElem.1 hi.nd q j (by omega) hj (by omega) (by simpa [List.getD_eq_getElem?_getD, hj] using e)
  · rcases Nat.lt_or_ge i j with hlt2 | hge
    · have h1 := hb.srt
      rw [← he] at h1
      have := List.pairwise_iff_getElem.1 h1 i j (by omega) hj hlt2
      simpa [List.getD_eq_getElem?_getD, hj, show i < (order h ws).2.length by omega] using this
    · obtain rfl : i = j := by omega
      exact Nat.le_refl _
  · by_cases hx : c ∈ (order h ws).2
    · obtain ⟨h1, h2, h3, P, h4, h5⟩ := yes c hx
      refine ⟨by rw [h1, (hbb c hc).2 hx], h2, ?_⟩
      rw [h4, List.length_map, h5.len]; omega
    · have hno := path_none hm hc (fun k hk => hx (by rw [he]; exact (hb.cpl c k hk).1))
      have hp : pathIs h ws c = false := by
        unfold pathIs
        rw [hok c hc]
        simpa using hno
      refine ⟨?_, by unfold pathE; rw [hok c hc]; rfl, ?_⟩
      · rw [hp]
        cases hg : (order h ws).1.getD c true
        · rfl
        · exact absurd ((hbb c hc).1 hg) hx
      · unfold pathR; rw [hp]; simp
set_option maxHeartbeats 4000000 in
theorem GraphCloses_any (w : World) (ao aw : Option Addr) (cap cw : Nat) (h : List Cel) (ws : List Int) (hr : RdF w ao (h.length * 4) (flat h) []) (hrw : RdF w aw ws.length (ints .u64 ws) []) (hh : ∀ x ∈ h, InR x) (hu : ∀ v ∈ ws, Gp.u64 v) (hb : Bnd w) (hn : h.length ≤ 140737488351232) (hm : ws.length ≤ 140737488351232) :
    Calls Tryd.prog 6 #[.slice ao h.length cap, .slice aw ws.length cw] w fun e w' => e = .returned (.bool true) ∧ Ch [] w w' := by
  by_cases hbig : 300 < h.length
  · have hbI : (300 : Int) < (h.length : Int) := by omega
    clear hr hrw hh hu hb hbig
    generalize h.length = n at *
    generalize ws.length = m at *
    go_enter Tryd.func6, Tryd.ntmps6
    go_wp2_with fail
    go_ret
    exact ⟨rfl, Ch.refl _ _⟩
  · have hbI : ¬ (300 : Int) < (h.length : Int) := by omega
    have hn2 : h.length ≤ 300 := by omega
    by_cases hbig2 : 1000 < ws.length
    · have hbI2 : (1000 : Int) < (ws.length : Int) := by omega
      clear hr hrw hh hu hb hbig hbig2
      generalize h.length = n at *
      generalize ws.length = m at *
      go_enter Tryd.func6, Tryd.ntmps6
      go_wp2_with fail
      go_ret
      exact ⟨rfl, Ch.refl _ _⟩
    · have hbI2 : ¬ (1000 : Int) < (ws.length : Int) := by omega
      have hm2 : ws.length ≤ 1000 := by omega
      clear hn hm hbig hbig2
      have K := known_any w hb
      have HRE := Lib.hid (fun (w1 : World) (c : Ch [] w w1) => Gr.Reach_any (ao := ao) (cap := cap) (h := h) (aw := aw) (cw := cw) (ws := ws) (m := ws.length) (w := w1) (by omega) (by omega) (hr.ch c (by simp)) (hrw.ch c (by simp)) hh hu (Bnd.ch hb c (by simp)))
      have HOR := Lib.hid (fun (w1 : World) (c : Ch [] w w1) => Gr.Order_any (ao := ao) (cap := cap) (h := h) (aw := aw) (cw := cw) (ws := ws) (m := ws.length) (w := w1) (by omega) (by omega) (hr.ch c (by simp)) (hrw.ch c (by simp)) hh hu (Bnd.ch hb c (by simp)))
      have HPA := Lib.hid (fun (w1 : World) (c : Ch [] w w1) (to : Int) => Gr.Path_any (ao := ao) (cap := cap) (h := h) (to := to) (aw := aw) (cw := cw) (ws := ws) (m := ws.length) (w := w1) (by omega) (by omega) (hr.ch c (by simp)) (hrw.ch c (by simp)) hh hu (Bnd.ch hb c (by simp)))
      have HWY := Lib.hid (fun (w1 : World) (c : Ch [] w w1) (ap : Option Addr) (cp to k : Nat) (P : List Nat) (hk : k < h.length) (hp : RdF w1 ap (k + 1) (iv (P.map (fun (c : Nat) => (c : Int)))) []) (hw : PWay h (refs ws) to k P) => way_any w1 ao ap aw cap cp cw h ws ws.length to k P (by omega) (by omega) hk (hr.ch c (by simp)) hp (hrw.ch c (by simp)) hh hu hw)
      unfold Mk at HRE HOR
      unfold PathPost at HPA
      have HR := Lib.hid hr
      have HRW := Lib.hid hrw
      have HH := Lib.hid hh
      have HU := Lib.hid hu
      have HB := Lib.hid hb
      clear hr hrw hh hu hb
      obtain ⟨n, hnl⟩ : ∃ n, n = h.length := ⟨_, rfl⟩
      obtain ⟨m, hml⟩ : ∃ m, m = ws.length := ⟨_, rfl⟩
      have HN := Lib.hid hnl
      have HM := Lib.hid hml
      rw [← hnl] at HRE HOR HPA HWY hn2 hbI HR ⊢
      rw [← hml] at HRE HOR HPA HWY hm2 hbI2 HRW ⊢
      clear hnl hml
      cases hmay : may h ws
      · as_aux_lemma =>
        have e1 : gErr h ws = 100 := by unfold gErr; simp [hmay]
        have e2 : reach h ws = [] := by unfold reach; simp [hmay]
        have e3 : met h ws = [] := by unfold met; simp [hmay]
        rw [e1, e2] at HRE
        rw [e1, e3] at HOR
        clear e1 e2 e3 HPA HWY hmay
        simp only [List.length_nil] at HRE HOR
        go_enter Tryd.func6, Tryd.ntmps6
        go_wp2_with fail
        refine K.mono ?_
        rintro e w2 ⟨rfl, c2⟩
        have H2 := Lib.hid c2
        have A := HRE.out w2 c2
        clear K c2
        go_wp2_with fail
        refine A.mono ?_
        rintro e w3 ⟨v1, q1, rfl, g1, g2, g3⟩
        have H3 := Lib.hid (H2.out.trans' g2)
        obtain ⟨a1, c1, rfl, _⟩ := g1.rd
        have A := HOR.out w3 H3.out
        clear g1 g2 g3
        go_wp2_with fail
        refine A.mono ?_
        rintro e w4 ⟨v2, q2, rfl, g1, g2, g3⟩
        have H4 := Lib.hid (H3.out.trans' g2)
        obtain ⟨a2, c2, rfl, _⟩ := g1.rd
        clear A g1 g2 g3
        go_wp2_with fail
        go_ret
        exact ⟨rfl, H4.out⟩
      · as_aux_lemma =>
        have e1 : gErr h ws = 0 := by unfold gErr; rw [if_pos hmay]
        have e2 : reach h ws = (order h ws).1 := by unfold reach; rw [if_pos hmay]
        have e3 : met h ws = (order h ws).2 := by unfold met; rw [if_pos hmay]
        obtain ⟨D, hclo⟩ := clo hmay
        rw [e1, e2] at HRE
        rw [e1, e3] at HOR
        have hbl := hclo.blen
        have hll := hclo.lle
        rw [← HN.out] at hbl hll
        rw [hbl] at HRE
        have HC := Lib.hid hclo
        have HMAY := Lib.hid hmay
        clear e1 e2 e3 hmay hclo
        generalize (order h ws).1 = B at *
        generalize (order h ws).2 = L at *
        obtain ⟨l, hl⟩ : ∃ l, l = L.length := ⟨_, rfl⟩
        rw [← hl] at HOR hll
        have HL := Lib.hid hl
        have HBL := Lib.hid hbl
        clear hl hbl
        go_enter Tryd.func6, Tryd.ntmps6
        go_wp2_with fail
        refine K.mono ?_
        rintro e w2 ⟨rfl, c2⟩
        have H2 := Lib.hid c2
        have A := HRE.out w2 c2
        clear K c2
        go_wp2_with fail
        refine A.mono ?_
        rintro e w3 ⟨v1, q1, rfl, g1, g2, g3⟩
        have H3 := Lib.hid (H2.out.trans' g2)
        obtain ⟨a1, c1, rfl, _, r1⟩ := Gr.Row.rdF g1
        rw [Nat.mul_one] at r1
        have HRB := Lib.hid r1
        have A := HOR.out w3 H3.out
        clear g1 g2 g3 r1
        go_wp2_with fail
        refine A.mono ?_
        rintro e w4 ⟨v2, q2, rfl, g1, g2, g3⟩
        have H4 := Lib.hid (H3.out.trans' g2)
        obtain ⟨a2, c2, rfl, _, r2⟩ := Gr.Row.rdF g1
        rw [Nat.mul_one] at r2
        have HRL := Lib.hid r2
        have HRB4 := Lib.hid (HRB.out.ch g2 (T' := []) (by simp))
        clear A g1 g2 g3 r2 HRB HRE HOR
        have HBC : Hid (∀ (W : World) (c : Nat), Ch [] w4 W → c < n → ∃ bb ob, a1 = some ⟨bb, ob, none⟩ ∧ W.cell? ⟨bb, ob + c, none⟩ = some (.bool (B.getD c true))) := Lib.hid (fun W c hc hlt => by
          obtain ⟨bb, ob, e, _, hj⟩ := HRB4.out.2.resolve_left (by omega)
          exact ⟨bb, ob, e, hc.cell ((hj c hlt).trans (bv_at _ _ (by rw [HBL.out]; exact hlt))) (by simp)⟩)
        go_wp2_with fail
        go_loopw [10] (fun i wr => ∃ (j : Nat), i = .int .i64 j ∧ j ≤ m ∧ w4 = wr) (fun i _ => m - (intOf i).toNat)
        case atStart => exact ⟨0, rfl, by omega, rfl⟩
        case round =>
          obtain ⟨j, rfl, hj, rfl⟩ := hrel
          by_cases hlt : j < m
          · as_aux_lemma =>
            have ltI : (j : Int) < m := by omega
            have hjl : j < ws.length := by rw [← HM.out]; exact hlt
            obtain ⟨bw, ow, rfl, _, hwj⟩ := (HRW.out.ch H4.out (T' := []) (by simp)).2.resolve_left (by omega)
            have a1 := (hwj j hlt)
            rw [show (ints .u64 ws)[j]? = some (.int .u64 (ws.getD j 0)) by simp [ints, hjl]] at a1
            have hmem : ws.getD j 0 ∈ ws := by simp [List.getD_eq_getElem?_getD, hjl]
            have hxu := HU.out _ hmem
            have hrt := HC.out.root _ hmem
            rw [← HN.out] at hrt
            generalize ws.getD j 0 = x at *
            have CC := Rd.Cell_any w4 x hxu.1 hxu.2
            have hrg := cellN_range x
            clear hwj hmem hxu
            cases hx : isRef x
            · rw [hx] at CC
              clear hrt hx hrg
              generalize cellN x = xc at *
              go_wp2_with fail
              refine CC.mono ?_
              rintro e w5 ⟨rfl, rfl⟩
              clear CC
              go_wp2_with fail
              go_roundw
              case rel => exact ⟨j + 1, by go_num, by omega, trivial⟩
              case measure => simp [intOf]; omega
            · rw [hx] at CC
              obtain ⟨r1, r2⟩ := hrt hx
              obtain ⟨c, hc⟩ : ∃ c : Nat, c = (cellN x).toNat := ⟨_, rfl⟩
              have hcv : cellN x = (c : Int) := by omega
              rw [← hc] at r1 r2
              rw [hcv] at CC
              obtain ⟨bb, ob, rfl, b1⟩ := HBC.out w4 c (Ch.refl _ _) r1
              rw [r2] at b1
              have ltC : (c : Int) < n := by omega
              clear hx hc hcv hrg hrt r2
              go_wp2_with fail
              refine CC.mono ?_
              rintro e w5 ⟨rfl, rfl⟩
              clear CC
              go_wp2_with fail
              go_roundw
              case rel => exact ⟨j + 1, by go_num, by omega, trivial⟩
              case measure => simp [intOf]; omega
          · as_aux_lemma =>
            obtain rfl : m = j := by omega
            have ltI : ¬ (m : Int) < m := by omega
            have hmk := run_make_bools w4 n (by omega)
            have C5 := (Ch.refl [] w4).alloc (.cells (bv (List.replicate n false)).toArray 4)
            have I5 : (w4.alloc (.cells (bv (List.replicate n false)).toArray 4)).heap[w4.heap.size]? = some (.cells (bv (markK n L 0)).toArray 4 (0, 0)) := heap_new _ _
            obtain ⟨mb, hmb⟩ : ∃ mb, mb = w4.heap.size := ⟨_, rfl⟩
            rw [← hmb] at I5 hmk
            have HMB := Lib.hid hmb
            have HI5 := Lib.hid I5
            have HC5 := Lib.hid C5
            clear hmb
            clear C5 I5 HM HRW HU
            go_wp2_with fail
            clear hmk
            generalize w4.alloc (.cells (bv (List.replicate n false)).toArray 4) = w5 at *
            go_loopw [15, 13] (fun i f wr => ∃ (j fr : Nat), i = .int .i64 j ∧ f = .int .i64 fr ∧ j ≤ l ∧ (∀ q, j ≤ q → q < l → fr ≤ D (L.getD q 0) + 1) ∧ fr ≤ 1000 ∧ wr.heap[mb]? = some (.cells (bv (markK n L j)).toArray 4 (0, 0)) ∧ Ch [] w4 wr) (fun i _ _ => l - (intOf i).toNat)
            case atStart => exact ⟨0, 0, rfl, rfl, by omega, fun _ _ _ => Nat.zero_le _, by omega, HI5.out, HC5.out⟩
            case round =>
              obtain ⟨j, fr, rfl, rfl, hj, hfr, hfr2, hhp, hc⟩ := hrel
              by_cases hlt : j < l
              · as_aux_lemma =>
                have ltI2 : (j : Int) < l := by omega
                have hlt' : j < L.length := by rw [← HL.out]; exact hlt
                obtain ⟨bl, ol, rfl, _, hlj⟩ := (HRL.out.ch hc (T' := []) (by simp)).2.resolve_left (by omega)
                have al := (hlj j hlt).trans (nv_at _ _ hlt')
                have hlm := Bf.getD_in L j hlt'
                have hcn := HC.out.llt j hlt'
                have hbt := (HC.out.b _ hcn).2 hlm
                have hnd := HC.out.nd j hlt'
                obtain ⟨y1, y2, y3, P, y4, y5⟩ := HC.out.yes _ hlm
                have hnx := HC.out.next _ hlm
                have HS : Hid (∀ q, j + 1 ≤ q → q < l → D (L.getD j 0) + 1 ≤ D (L.getD q 0) + 1) := Lib.hid (fun q h1 h2 => by have := HC.out.srt j q (by omega) (by rw [← HL.out]; exact h2); omega)
                have hfr3 := hfr j (Nat.le_refl _) hlt
                have HMK : Hid (markK n L (j + 1) = (markK n L j).set (L.getD j 0) true) := Lib.hid rfl
                rw [← HN.out] at hcn y3
                have hmk0 : (bv (markK n L j)).toArray[L.getD j 0]? = some (.bool false) := by
                  have := markK_at n L j (L.getD j 0) (by omega) hcn
                  rw [List.getElem?_toArray]
                  simp only [bv, List.getElem?_map, this]
                  rw [decide_eq_false hnd]; rfl
                have hwo : wordsOf h (L.getD j 0) = if (h.getD (L.getD j 0) z).k = 0 then [] else [(h.getD (L.getD j 0) z).a, (h.getD (L.getD j 0) z).b] := rfl
                generalize L.getD j 0 = c at *
                have ltC : (c : Int) < n := by omega
                obtain ⟨bb, ob, rfl, b1⟩ := HBC.out wr c hc hcn
                rw [hbt] at b1
                have m1 := cell_at (i := c) hhp
                rw [hmk0] at m1
                have m2 := free_at (i := c) hhp
                have hmw := HMB.out
                have CS := Ch.setCell hc ⟨mb, c, none⟩ (.bool true) (.inr (by show w4.heap.size ≤ mb; omega))
                have HCS := Lib.hid CS
                have HHS : Hid ((wr.setCell ⟨mb, c, none⟩ (.bool true)).heap[mb]? = some (.cells (bv (markK n L (j + 1))).toArray 4 (0, 0))) := Lib.hid (by rw [HMK.out, ← bv_set]; exact heap_set hhp _)
                have CW := H4.out.trans' CS
                have A := HPA.out _ CW c
                rw [y1, y2, y4] at A
                obtain ⟨bh, oh, rfl, _, hhj⟩ := (HR.out.ch CW (T' := []) (by simp)).2.resolve_left (by omega)
                have hA : ∀ t, t < 4 → (wr.setCell ⟨mb, c, none⟩ (.bool true)).cell? ⟨bh, oh + (c * 4 + t), none⟩ = (celV (h.getD c z))[t]? := fun t ht => (hhj (c * 4 + t) (by omega)).trans (flat_get h c t (by rw [← HN.out]; exact hcn) ht)
                have d0 := hA 0 (by omega)
                have d2 := hA 2 (by omega)
                have d3 := hA 3 (by omega)
                obtain ⟨_, _, _, _, i5, i6⟩ := InR.at HH.out c (by rw [← HN.out]; exact hcn)
                generalize h.getD c z = cel at *
                obtain ⟨ck, cc, ca, cb⟩ := cel
                simp only [celV, List.getElem?_cons_zero, List.getElem?_cons_succ, Nat.add_zero, ← Nat.add_assoc] at d0 d2 d3
                simp only at i5 i6 hwo
                obtain ⟨pl, hpl⟩ : ∃ pl, pl = D c + 1 := ⟨_, rfl⟩
                have hpl2 : (P.map (fun (c : Nat) => (c : Int))).length = pl := by rw [List.length_map, y5.len, hpl]
                rw [hpl2] at A
                rw [← hpl] at hfr3 HS
                have hpl3 : pl ≤ 1000 := by omega
                have HWY2 : Hid (∀ (w1 : World) (c1 : Ch [] w w1) (ap : Option Addr) (cp : Nat) (hp : RdF w1 ap pl (iv (P.map (fun (c : Nat) => (c : Int)))) []), Calls Tryd.prog 25 #[.slice (some ⟨bh, oh, none⟩) n cap, .slice ap pl cp, .int .i64 c, .slice aw m cw] w1 fun e w' => e = .returned (.bool true) ∧ Ch [] w1 w') := Lib.hid (fun w1 c1 ap cp hp => by
                  subst hpl
                  exact HWY.out w1 c1 ap cp c (D c) P y3 hp y5)
                have ltF : ¬ (pl : Int) < fr := by omega
                have HCW := Lib.hid CW
                have C1 := Rd.Cell_any (wr.setCell ⟨mb, c, none⟩ (.bool true)) ca i5.1 i5.2
                have C2 := Rd.Cell_any (wr.setCell ⟨mb, c, none⟩ (.bool true)) cb i6.1 i6.2
                have rg1 := cellN_range ca
                have rg2 := cellN_range cb
                have HPL := Lib.hid hpl
                have h31 := And.intro hnx hwo
                have HX := Lib.hid h31
                have HBX : Hid (∀ x : Int, isRef x = true → x ∈ wordsOf h c → ∃ xc : Nat, cellN x = (xc : Int) ∧ (xc : Int) < n ∧ (wr.setCell ⟨mb, c, none⟩ (.bool true)).cell? ⟨bb, ob + xc, none⟩ = some (.bool true)) := Lib.hid (fun x hx hm => by
                  obtain ⟨k1, k2⟩ := HX.out.1 x hm hx
                  rw [← HN.out] at k1
                  obtain ⟨bb', ob', e1, e2⟩ := HBC.out _ (cellN x).toNat HCS.out k1
                  simp only [Option.some.injEq, Addr.mk.injEq] at e1
                  obtain ⟨rfl, rfl, _⟩ := e1
                  rw [k2] at e2
                  have := cellN_range x
                  exact ⟨(cellN x).toNat, by omega, by omega, e2⟩)
                clear hmw hhp hnd hmk0 hnx hwo hA hhj hlj y1 y2 y4 y5 hbt hlm hlt' hcn hc CS CW i5 i6 hpl hpl2 hfr h31
                by_cases k0 : ck = 0
                · as_aux_lemma =>
                  subst k0
                  clear HBX
                  generalize isRef ca = ia at *
                  generalize isRef cb = ib at *
                  generalize cellN ca = xa at *
                  generalize cellN cb = xb at *
                  go_wp2_with fail
                  refine C1.mono ?_
                  rintro e w6 ⟨rfl, rfl⟩
                  clear C1
                  go_wp2_with fail
                  refine C2.mono ?_
                  rintro e w6 ⟨rfl, rfl⟩
                  clear C2
                  go_wp2_with fail
                  refine A.mono ?_
                  rintro e w6 ⟨v6, q6, rfl, g1, g2, g3⟩
                  clear A
                  obtain ⟨a6, c6, rfl, _, r6⟩ := Gr.Row.rdF g1
                  rw [Nat.mul_one] at r6
                  have HC6 := Lib.hid (HCS.out.trans' g2)
                  have W := HWY2.out w6 (HCW.out.trans' g2) a6 c6 r6
                  have HH6 := Lib.hid (g2.heap HHS.out (by simp))
                  clear g1 g2 g3 r6
                  go_wp2_with fail
                  refine W.mono ?_
                  rintro e w7 ⟨rfl, g2⟩
                  have HC7 := Lib.hid (HC6.out.trans' g2)
                  have HH7 := Lib.hid (g2.heap HH6.out (by simp))
                  clear W g2 HC6 HH6
                  go_wp2_with fail
                  go_roundw
                  case rel => exact ⟨j + 1, pl, by go_num, rfl, by omega, HS.out, hpl3, HH7.out, HC7.out⟩
                  case measure => simp [intOf]; omega
                · have hw := HX.out.2
                  rw [if_neg k0] at hw
                  have hk0 : (ck != 0) = true := by simpa using k0
                  have BA : Hid (isRef ca = true → _) := Lib.hid (fun e => HBX.out ca e (by rw [hw]; simp))
                  have BB : Hid (isRef cb = true → _) := Lib.hid (fun e => HBX.out cb e (by rw [hw]; simp))
                  clear hw HBX HX
                  cases ia : isRef ca <;> cases ib : isRef cb
                  · as_aux_lemma =>
                    rw [ia] at C1
                    rw [ib] at C2
                    clear BA BB ia ib
                    generalize cellN ca = xa at *
                    generalize cellN cb = xb at *
                    go_wp2_with fail
                    refine C1.mono ?_
                    rintro e w6 ⟨rfl, rfl⟩
                    clear C1
                    go_wp2_with fail
                    refine C2.mono ?_
                    rintro e w6 ⟨rfl, rfl⟩
                    clear C2
                    go_wp2_with fail
                    refine A.mono ?_
                    rintro e w6 ⟨v6, q6, rfl, g1, g2, g3⟩
                    clear A
                    obtain ⟨a6, c6, rfl, _, r6⟩ := Gr.Row.rdF g1
                    rw [Nat.mul_one] at r6
                    have HC6 := Lib.hid (HCS.out.trans' g2)
                    have W := HWY2.out w6 (HCW.out.trans' g2) a6 c6 r6
                    have HH6 := Lib.hid (g2.heap HHS.out (by simp))
                    clear g1 g2 g3 r6
                    go_wp2_with fail
                    refine W.mono ?_
                    rintro e w7 ⟨rfl, g2⟩
                    have HC7 := Lib.hid (HC6.out.trans' g2)
                    have HH7 := Lib.hid (g2.heap HH6.out (by simp))
                    clear W g2 HC6 HH6
                    go_wp2_with fail
                    go_roundw
                    case rel => exact ⟨j + 1, pl, by go_num, rfl, by omega, HS.out, hpl3, HH7.out, HC7.out⟩
                    case measure => simp [intOf]; omega
                  · as_aux_lemma =>
                    obtain ⟨yb, e1, e2, e3⟩ := BB.out ib
                    rw [ia] at C1
                    rw [ib, e1] at C2
                    clear BA BB ia ib e1
                    generalize cellN ca = xa at *
                    go_wp2_with fail
                    refine C1.mono ?_
                    rintro e w6 ⟨rfl, rfl⟩
                    clear C1
                    go_wp2_with fail
                    refine C2.mono ?_
                    rintro e w6 ⟨rfl, rfl⟩
                    clear C2
                    go_wp2_with fail
                    refine A.mono ?_
                    rintro e w6 ⟨v6, q6, rfl, g1, g2, g3⟩
                    clear A
                    obtain ⟨a6, c6, rfl, _, r6⟩ := Gr.Row.rdF g1
                    rw [Nat.mul_one] at r6
                    have HC6 := Lib.hid (HCS.out.trans' g2)
                    have W := HWY2.out w6 (HCW.out.trans' g2) a6 c6 r6
                    have HH6 := Lib.hid (g2.heap HHS.out (by simp))
                    clear g1 g2 g3 r6
                    go_wp2_with fail
                    refine W.mono ?_
                    rintro e w7 ⟨rfl, g2⟩
                    have HC7 := Lib.hid (HC6.out.trans' g2)
                    have HH7 := Lib.hid (g2.heap HH6.out (by simp))
                    clear W g2 HC6 HH6
                    go_wp2_with fail
                    go_roundw
                    case rel => exact ⟨j + 1, pl, by go_num, rfl, by omega, HS.out, hpl3, HH7.out, HC7.out⟩
                    case measure => simp [intOf]; omega
                  · as_aux_lemma =>
                    obtain ⟨ya, e1, e2, e3⟩ := BA.out ia
                    rw [ia, e1] at C1
                    rw [ib] at C2
                    clear BA BB ia ib e1
                    generalize cellN cb = xb at *
                    go_wp2_with fail
                    refine C1.mono ?_
                    rintro e w6 ⟨rfl, rfl⟩
                    clear C1
                    go_wp2_with fail
                    refine C2.mono ?_
                    rintro e w6 ⟨rfl, rfl⟩
                    clear C2
                    go_wp2_with fail
                    refine A.mono ?_
                    rintro e w6 ⟨v6, q6, rfl, g1, g2, g3⟩
                    clear A
                    obtain ⟨a6, c6, rfl, _, r6⟩ := Gr.Row.rdF g1
                    rw [Nat.mul_one] at r6
                    have HC6 := Lib.hid (HCS.out.trans' g2)
                    have W := HWY2.out w6 (HCW.out.trans' g2) a6 c6 r6
                    have HH6 := Lib.hid (g2.heap HHS.out (by simp))
                    clear g1 g2 g3 r6
                    go_wp2_with fail
                    refine W.mono ?_
                    rintro e w7 ⟨rfl, g2⟩
                    have HC7 := Lib.hid (HC6.out.trans' g2)
                    have HH7 := Lib.hid (g2.heap HH6.out (by simp))
                    clear W g2 HC6 HH6
                    go_wp2_with fail
                    go_roundw
                    case rel => exact ⟨j + 1, pl, by go_num, rfl, by omega, HS.out, hpl3, HH7.out, HC7.out⟩
                    case measure => simp [intOf]; omega
                  · as_aux_lemma =>
                    obtain ⟨ya, e1, e2, e3⟩ := BA.out ia
                    obtain ⟨yb, f1, f2, f3⟩ := BB.out ib
                    rw [ia, e1] at C1
                    rw [ib, f1] at C2
                    clear BA BB ia ib e1 f1
                    go_wp2_with fail
                    refine C1.mono ?_
                    rintro e w6 ⟨rfl, rfl⟩
                    clear C1
                    go_wp2_with fail
                    refine C2.mono ?_
                    rintro e w6 ⟨rfl, rfl⟩
                    clear C2
                    go_wp2_with fail
                    refine A.mono ?_
                    rintro e w6 ⟨v6, q6, rfl, g1, g2, g3⟩
                    clear A
                    obtain ⟨a6, c6, rfl, _, r6⟩ := Gr.Row.rdF g1
                    rw [Nat.mul_one] at r6
                    have HC6 := Lib.hid (HCS.out.trans' g2)
                    have W := HWY2.out w6 (HCW.out.trans' g2) a6 c6 r6
                    have HH6 := Lib.hid (g2.heap HHS.out (by simp))
                    clear g1 g2 g3 r6
                    go_wp2_with fail
                    refine W.mono ?_
                    rintro e w7 ⟨rfl, g2⟩
                    have HC7 := Lib.hid (HC6.out.trans' g2)
                    have HH7 := Lib.hid (g2.heap HH6.out (by simp))
                    clear W g2 HC6 HH6
                    go_wp2_with fail
                    go_roundw
                    case rel => exact ⟨j + 1, pl, by go_num, rfl, by omega, HS.out, hpl3, HH7.out, HC7.out⟩
                    case measure => simp [intOf]; omega
              · as_aux_lemma =>
                obtain rfl : l = j := by omega
                have ltI2 : ¬ (l : Int) < l := by omega
                have hfull : markK n L l = B := by have := HC.out.full; rw [← HN.out, ← HL.out] at this; exact this
                rw [hfull] at hhp
                have HHP := Lib.hid hhp
                have HCC := Lib.hid hc
                clear hfr hfr2 hfull hhp hc HI5 HC5 HRL
                go_wp2_with fail
                go_loopw [25] (fun i wr => ∃ (j : Nat), i = .int .i64 j ∧ j ≤ n ∧ wr.heap[mb]? = some (.cells (bv B).toArray 4 (0, 0)) ∧ Ch [] w4 wr) (fun i _ => n - (intOf i).toNat)
                case atStart => exact ⟨0, rfl, by omega, HHP.out, HCC.out⟩
                case round =>
                  obtain ⟨j, rfl, hj, hhp, hc⟩ := hrel
                  by_cases hlt : j < n
                  · as_aux_lemma =>
                    have ltJ : (j : Int) < n := by omega
                    obtain ⟨bb, ob, rfl, b1⟩ := HBC.out wr j hc hlt
                    have m1 := cell_at (i := j) hhp
                    rw [List.getElem?_toArray, bv_at _ _ (by rw [HBL.out]; exact hlt)] at m1
                    have A := HPA.out (wr.drewN 9) ((H4.out.trans' hc).drewN 9) j
                    have HPJ : Hid (∀ k, _) := Lib.hid (fun k => HPA.out (wr.drewN k) ((H4.out.trans' hc).drewN k) j)
                    obtain ⟨y1, y2, y3⟩ := HC.out.same j (by rw [← HN.out]; exact hlt)
                    rw [y1, y2] at HPJ
                    have HHJ := Lib.hid (fun (k : Nat) (W : World) (c : Ch [] (wr.drewN k) W) => c.heap (show (wr.drewN k).heap[mb]? = _ from hhp) (by simp))
                    have HCJ := Lib.hid hc
                    have HBJ := Lib.hid (fun (k : Nat) (W : World) (c : Ch [] (wr.drewN k) W) => (c.cell (show (wr.drewN k).cell? ⟨bb, ob + j, none⟩ = _ from b1) (by simp)))
                    clear A y1 y2 y3 hhp hc
                    generalize B.getD j true = bj at *
                    cases bj
                    all_goals
                      go_wp2_with fail
                      go_quiet (fail)
                      go_wp2_with fail
                      refine (HPJ.out _).mono ?_
                      rintro e w6 ⟨v6, q6, rfl, g1, g2, g3⟩
                      obtain ⟨a6, c6, rfl, _⟩ := g1.rd
                      have b2 := HBJ.out _ _ g2
                      have HC6 := Lib.hid ((HCJ.out.drewN _).trans' g2)
                      have HH6 := Lib.hid (HHJ.out _ _ g2)
                      clear g1 g2 g3 b1 m1
                      go_wp2_with fail
                      go_roundw
                      case rel => exact ⟨j + 1, by go_num, by omega, HH6.out, HC6.out⟩
                      case measure => simp [intOf]; omega
                  · as_aux_lemma =>
                    obtain rfl : n = j := by omega
                    have ltJ : ¬ (n : Int) < n := by omega
                    have HCE := Lib.hid (H4.out.trans' hc)
                    clear hhp hc
                    go_wp2_with fail
                    go_ret
                    exact ⟨rfl, HCE.out⟩
end Go.Proofs.YtggijcebobjghaaDoor.L10
