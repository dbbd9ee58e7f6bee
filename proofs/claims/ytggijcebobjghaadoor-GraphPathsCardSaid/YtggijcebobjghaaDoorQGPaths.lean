/-
  THE WALK of GraphPaths.
-/
import Derived.Test.YtggijcebobjghaaDoorQRef10r
import Derived.Test.YtggijcebobjghaaDoorQBook4
import Derived.Test.YtggijcebobjghaaDoorQLaw10n
import Derived.Test.YtggijcebobjghaaDoorQJLentC
set_option linter.unusedVariables false
set_option linter.unusedSimpArgs false
set_option maxRecDepth 100000
namespace Go.Proofs.YtggijcebobjghaaDoor.L10
open Go.RowKit Go.Proofs.YtggijcebobjghaaDoor.Wd Go.Proofs.YtggijcebobjghaaDoor.Hp Go.Proofs.YtggijcebobjghaaDoor.Gp Go.Proofs.YtggijcebobjghaaDoor.Sm Go.Proofs.YtggijcebobjghaaDoor.Gr Go.Proofs.YtggijcebobjghaaDoor.Own
theorem pathR_le (h : List Cel) (ws : List Int) (to : Int) : (pathR h ws to).length ≤ h.length := by
  by_cases hok : pathOk h ws to = true
  · have ho := hok
    unfold pathOk at ho
    simp only [Bool.and_eq_true, decide_eq_true_eq] at ho
    obtain ⟨hm, h0, h1⟩ := ho
    obtain ⟨k, rfl⟩ : ∃ k : Nat, to = (k : Int) := ⟨to.toNat, by omega⟩
    obtain ⟨p1, p2⟩ := Rp.path_ref hm (to := k) (by omega) rfl
    by_cases hq : (Rp.all h ws).getD k 0 = 0
    · rw [(p1 hq).2]; simp
    · obtain ⟨_, P, e, hP⟩ := p2 (by omega)
      rw [e, List.length_map, hP.len]
      exact (Rp.all_ok hm).bnd k
  · have : pathIs h ws to = false := by unfold pathIs; simp [hok]
    unfold pathR; rw [this]; simp
theorem path_no {h : List Cel} {ws : List Int} {to : Int} (hok : pathOk h ws to = false) : pathIs h ws to = false ∧ pathE h ws to = 100 ∧ pathR h ws to = [] := by
  have : pathIs h ws to = false := by unfold pathIs; rw [hok]; rfl
  exact ⟨this, by unfold pathE; rw [hok]; rfl, by unfold pathR; rw [this]; rfl⟩
theorem path_yes {h : List Cel} {ws : List Int} {to : Int} (hok : pathOk h ws to = true) : pathE h ws to = 0 ∧ may h ws = true ∧ ∃ k : Nat, to = (k : Int) ∧ k < h.length := by
  refine ⟨by unfold pathE; rw [hok]; rfl, ?_⟩
  unfold pathOk at hok
  simp only [Bool.and_eq_true, decide_eq_true_eq] at hok
  exact ⟨hok.1, to.toNat, by omega, by omega⟩
theorem Row.trimP {w : World} {e : TypeId} {sz n : Nat} {qs : List Nat} {v : Value} {xs : List Value} (h : Row w e sz v qs n xs) : ∃ rs, Row w e sz v rs n xs ∧ ∀ y ∈ rs, y ∈ qs ∧ y < w.heap.size := by
  obtain ⟨hl, ao, cap, rfl, g1, g2, g3, g4⟩ := h
  rcases g4 with g4 | ⟨q, off, arr, k1, k2, k3, k4, k5⟩
  · exact ⟨[], ⟨hl, ao, cap, rfl, g1, g2, g3, .inl g4⟩, by simp⟩
  · exact ⟨[q], ⟨hl, ao, cap, rfl, g1, g2, g3, .inr ⟨q, off, arr, by simp, k2, k3, k4, k5⟩⟩, fun y hy => by simp at hy; subst hy; exact ⟨k1, lt_of k3⟩⟩
/-- A new list of ints goes into the book. -/
theorem ints_in {w0 wr : World} {O : Nat → Nat} {bp ni : Nat} (hg : G w0 wr O) (hb : Bk4 wr O bp ni 0 0 0) (hni : ni ≤ 900) {w6 : World} {v : Value} {q6 : List Nat} {m : Nat} {xs : List Value} (row : Row w6 3 1 v q6 m xs) (c : Ch [] wr w6) (fr : ∀ q ∈ q6, wr.heap.size ≤ q) (hm : m ≤ 1000000) :
    Calls Tryd.prog 19 #[.pointer (some ⟨bp, 0, none⟩), v] w6 fun e w7 => e = .returned (.tuple #[]) ∧ ∃ O' rs T, G w0 w7 O' ∧ Bk4 w7 O' bp (ni + 1) 0 0 0 ∧ Row w7 3 1 v rs m xs ∧ Ch T w6 w7 ∧ ∀ x ∈ T, O x ≠ 0 := by
  obtain ⟨rs, hrs, hin⟩ := Row.trimP row
  have hz : ∀ y, wr.heap.size ≤ y → O y = 0 := fun y hy => Decidable.byContradiction fun hne => by have := (hg.ow y hne).2; omega
  have g6 := hg.step c (by simp)
  refine (Ints_bk4 g6 (hb.ch c) hrs (fun y hy => ⟨hz y (fr y (hin y hy).1), by have := hg.ch.size; have := fr y (hin y hy).1; omega, (hin y hy).2⟩) hm (by omega)).mono ?_
  rintro e w7 ⟨he, O', T, k1, k2, k3, k4, k5, k6⟩
  refine ⟨he, O', rs, T, k1, k3, hrs.ch k4 (fun y hy hm => ?_), k4, fun x hx => ?_⟩
  · have h0 := hz y (fr y (hin y hy).1)
    rcases k5 y hm with h | h <;> omega
  · rcases k5 x hx with h | h <;> omega
set_option maxHeartbeats 8000000 in
theorem GraphPaths_any (w : World) (ao aw : Option Addr) (cap cw : Nat) (h : List Cel) (ws : List Int) (to : Int) (hr : RdF w ao (h.length * 4) (flat h) []) (hrw : RdF w aw ws.length (ints .u64 ws) []) (hh : ∀ x ∈ h, InR x) (hu : ∀ v ∈ ws, Gp.u64 v) (hb : Bnd w) (hcw : ws.length ≤ cw ∧ cw ≤ maxLen) :
    Calls Tryd.prog 5 #[.slice ao h.length cap, .slice aw ws.length cw, .int .i64 to] w fun e w' => e = .returned (.bool true) ∧ Ch [] w w' := by
  by_cases hbig : 60 < h.length
  · have hbI : (60 : Int) < (h.length : Int) := by omega
    clear hr hrw hh hu hb hbig hcw
    generalize h.length = n at *
    generalize ws.length = m at *
    go_enter Tryd.func5, Tryd.ntmps5
    go_wp2_with fail
    go_ret
    exact ⟨rfl, Ch.refl _ _⟩
  have hbI : ¬ (60 : Int) < (h.length : Int) := by omega
  have hn2 : h.length ≤ 60 := by omega
  by_cases hbig2 : 100000 < ws.length
  · have hbI2 : (100000 : Int) < (ws.length : Int) := by omega
    clear hr hrw hh hu hb hbig hbig2 hcw
    generalize h.length = n at *
    generalize ws.length = m at *
    go_enter Tryd.func5, Tryd.ntmps5
    go_wp2_with fail
    go_ret
    exact ⟨rfl, Ch.refl _ _⟩
  have hbI2 : ¬ (100000 : Int) < (ws.length : Int) := by omega
  have hm2 : ws.length ≤ 100000 := by omega
  have K := known_any w hb
  have HRI := Lib.hid (fun (w1 : World) (c : Ch [] w w1) => R10.Right_any w1 ao cap h aw ws.length cw ws (by omega) (by omega) (hr.ch c (by simp)) (hrw.ch c (by simp)) hh hu)
  have HLC := Lib.hid (fun (w1 : World) (c : Ch [] w w1) => LentCells_any w1 ao h.length cap h (by omega) rfl (hr.ch c (by simp)))
  have HLW := Lib.hid (fun (w1 : World) (c : Ch [] w w1) => LentWords_any w1 aw ws.length cw ws (by omega) (hrw.ch c (by simp)))
  have HRP := Lib.hid (fun (w1 : World) (c : Ch [] w w1) (k : Nat) (hk : k < h.length) (hm : may h ws = true) => Rp.Path_any w1 ao cap h k aw ws.length cw ws (by omega) (by omega) hk (hr.ch c (by simp)) (hrw.ch c (by simp)) hh hu hm)
  unfold Rp.Path10 at HRP
  have HR := Lib.hid hr
  have HRW := Lib.hid hrw
  have HH := Lib.hid hh
  have HU := Lib.hid hu
  have HB := Lib.hid hb
  have HCW := Lib.hid hcw
  clear hr hrw hh hu hb hcw hbig hbig2
  obtain ⟨n, hnl⟩ : ∃ n, n = h.length := ⟨_, rfl⟩
  obtain ⟨m, hml⟩ : ∃ m, m = ws.length := ⟨_, rfl⟩
  have HN := Lib.hid hnl
  have HM := Lib.hid hml
  rw [← hnl] at HLC hn2 hbI HR HRI HRP ⊢
  rw [← hml] at HLW hm2 hbI2 HRW HCW HRI HRP ⊢
  have HLE := Lib.hid (pathR_le h ws)
  rw [← hnl] at HLE
  clear hnl hml
  go_enter Tryd.func5, Tryd.ntmps5
  go_wp2_with fail
  refine K.mono ?_
  rintro e w2 ⟨rfl, c2⟩
  have H2 := Lib.hid c2
  have L := HRI.out w2 c2
  clear K c2
  go_wp2_with fail
  refine L.mono ?_
  rintro e w2b ⟨rfl, c2⟩
  have H2b := Lib.hid (H2.out.trans' c2)
  have L := HLC.out w2b H2b.out
  clear c2
  go_wp2_with fail
  refine L.mono ?_
  rintro e w3 ⟨qc, rfl, g1, g2, g3⟩
  have H3 := Lib.hid (H2b.out.trans' g2)
  have HQ3 := Lib.hid g1
  have HQ3L := Lib.hid (Nat.le_trans H2b.out.size g3)
  have L := HLW.out w3 H3.out
  clear g1 g2 g3
  go_wp2_with fail
  refine L.mono ?_
  rintro e w4 ⟨qr, rfl, g1, g2, g3⟩
  have H4 := Lib.hid (H3.out.trans' g2)
  have HQC := Lib.hid (g2.heap HQ3.out (by simp))
  have HQR := Lib.hid g1
  have HQL : Hid (w.heap.size ≤ qc ∧ qc < qr ∧ qr < w4.heap.size) := Lib.hid (by have h1 := HQ3L.out; have h2 := lt_of HQ3.out; have h3 := lt_of g1; omega)
  clear L g1 g2 g3 HQ3 HQ3L H3 H2 H2b HLC HLW HRI
  have HBN := Lib.hid (Bk4.new (show G w4 w4 (fun _ => 0) from ⟨Ch.refl _ _, fun x hx => absurd rfl hx⟩))
  obtain ⟨bp, hbp⟩ : ∃ bp, bp = w4.heap.size := ⟨_, rfl⟩
  rw [← hbp] at HBN
  have HPA := Lib.hid (fun (w1 : World) (c : Ch [] w4 w1) (t : Int) => Gr.Path_any (ao := some ⟨qc, 0, none⟩) (cap := n + 2) (h := h) (to := t) (aw := some ⟨qr, 0, none⟩) (cw := m + 2) (ws := ws) (m := m) (w := w1) (by rw [← HN.out]; omega) (by omega) ((LentCs.rd HQC.out).ch c (by simp)) (by have h5 : Hp.Rd w4 (some ⟨qr, 0, none⟩) ws.length (ints .u64 ws) := LentWs.rd HQR.out; rw [← HM.out] at h5; exact (show RdF w4 (some ⟨qr, 0, none⟩) m (ints .u64 ws) [] from ⟨h5.1, h5.2.imp id fun ⟨b, off, e, hj⟩ => ⟨b, off, e, by simp, hj⟩⟩).ch c (by simp)) HH.out HU.out (Bnd.ch HB.out (H4.out.trans' c) (by simp)))
  rw [← HN.out] at HPA
  unfold PathPost at HPA
  obtain ⟨N1, hN1⟩ : ∃ N1, N1 = n + 1 := ⟨_, rfl⟩
  have hN1I : (n : Int) + 1 = (N1 : Int) := by omega
  clear hN1
  generalize hmv : may h ws = mv at *
  have HMV := Lib.hid hmv
  clear hmv
  go_wp2_with fail
  rw [← hbp]
  clear hbp
  go_loopw [12] (fun i wr => ∃ (ii : Int) (j ni : Nat) (O : Nat → Nat), i = .int .i64 ii ∧ ii + 1 = j ∧ j ≤ n + 3 ∧ ni ≤ 2 * j ∧ G w4 wr O ∧ Bk4 wr O bp ni 0 0 0) (fun i _ => (n + 2 - intOf i).toNat)
  case atStart => exact ⟨-1, 0, 0, _, rfl, by omega, by omega, by omega, HBN.out.1, HBN.out.2⟩
  case round =>
    obtain ⟨ii, j, ni, O, rfl, hij, hj, hni, hgg, hbk⟩ := hrel
    have HG := Lib.hid hgg
    have HBK := Lib.hid hbk
    clear HBN
    by_cases hlt : j < n + 3
    · have hle : ii ≤ (N1 : Int) := by omega
      clear hgg hbk
      by_cases heq : ii = (N1 : Int)
      · have eqI : (ii == (N1 : Int)) = true := by simpa using heq
        have A := HPA.out wr HG.out.ch to
        have hll := HLE.out to
        cases hok : pathOk h ws to
        · obtain ⟨e1, e2, e3⟩ := path_no hok
          have hrs : mv = false ∨ (mv = true ∧ to < 0) ∨ (mv = true ∧ ¬ to < 0 ∧ (n : Int) ≤ to) := by
            unfold pathOk at hok
            rw [HMV.out, ← HN.out] at hok
            cases mv
            · exact .inl rfl
            · rcases Int.lt_or_le to 0 with h1 | h1
              · exact .inr (.inl ⟨rfl, h1⟩)
              · refine .inr (.inr ⟨rfl, by omega, ?_⟩)
                simp at hok
                exact hok h1
          rw [e1, e2, e3] at A
          simp only [List.length_nil] at A
          clear e1 e2 e3 hok hll
          rcases hrs with rfl | ⟨rfl, hK⟩ | ⟨rfl, hK, hK2⟩
          · as_aux_lemma =>
            go_wp2_with fail
            refine A.mono ?_
            rintro e w6 ⟨v6, q6, rfl, g1, g2, g3⟩
            obtain ⟨a6, c6, rfl, _⟩ := g1.rd
            have B := ints_in HG.out HBK.out (by omega) g1 g2 g3 (by omega)
            clear A g1 g2 g3
            go_wp2_with fail
            refine B.mono ?_
            rintro e w7 ⟨rfl, O2, rs, T, k1, k2, _, _, _⟩
            have GG := Lib.hid k1
            have BB := Lib.hid k2
            clear B k1 k2
            go_wp2_with fail
            go_roundw
            case rel => exact ⟨ii + 1, j + 1, ni + 1, O2, by first | rfl | go_num, by omega, by omega, by omega, GG.out, BB.out⟩
            case measure => simp [intOf]; omega
          · as_aux_lemma =>
            go_wp2_with fail
            refine A.mono ?_
            rintro e w6 ⟨v6, q6, rfl, g1, g2, g3⟩
            obtain ⟨a6, c6, rfl, _⟩ := g1.rd
            have B := ints_in HG.out HBK.out (by omega) g1 g2 g3 (by omega)
            clear A g1 g2 g3
            go_wp2_with fail
            refine B.mono ?_
            rintro e w7 ⟨rfl, O2, rs, T, k1, k2, _, _, _⟩
            have GG := Lib.hid k1
            have BB := Lib.hid k2
            clear B k1 k2
            go_wp2_with fail
            go_roundw
            case rel => exact ⟨ii + 1, j + 1, ni + 1, O2, by first | rfl | go_num, by omega, by omega, by omega, GG.out, BB.out⟩
            case measure => simp [intOf]; omega
          · as_aux_lemma =>
            go_wp2_with fail
            refine A.mono ?_
            rintro e w6 ⟨v6, q6, rfl, g1, g2, g3⟩
            obtain ⟨a6, c6, rfl, _⟩ := g1.rd
            have B := ints_in HG.out HBK.out (by omega) g1 g2 g3 (by omega)
            clear A g1 g2 g3
            go_wp2_with fail
            refine B.mono ?_
            rintro e w7 ⟨rfl, O2, rs, T, k1, k2, _, _, _⟩
            have GG := Lib.hid k1
            have BB := Lib.hid k2
            clear B k1 k2
            go_wp2_with fail
            go_roundw
            case rel => exact ⟨ii + 1, j + 1, ni + 1, O2, by first | rfl | go_num, by omega, by omega, by omega, GG.out, BB.out⟩
            case measure => simp [intOf]; omega
        · as_aux_lemma =>
          obtain ⟨e1, e2, k, hk, hkl⟩ := path_yes hok
          have hmvt : mv = true := by rw [← HMV.out, e2]
          subst hmvt
          rw [e1] at A
          have A2 := Lib.hid (fun (w1 : World) (c : Ch [] w4 w1) => HPA.out w1 c to)
          rw [e1] at A2
          have R := Lib.hid (fun (w1 : World) (c : Ch [] w w1) => HRP.out w1 c k (by rw [HN.out]; exact hkl) (by first | exact e2 | rfl | exact HMV.out))
          rw [← hk] at R
          have hK0 : ¬ to < 0 := by omega
          have hKn : ¬ (n : Int) ≤ to := by rw [HN.out]; omega
          have hKn2 : to < (n : Int) := by rw [HN.out]; omega
          clear hok e1 e2 hkl
          generalize pathIs h ws to = is at *
          generalize pathR h ws to = L at *
          obtain ⟨l, hl⟩ : ∃ l, l = L.length := ⟨_, rfl⟩
          rw [← hl] at A A2 R hll
          have HK := Lib.hid hk
          clear hl hk
          go_wp2_with fail
          refine A.mono ?_
          rintro e w6 ⟨v6, q6, rfl, g1, g2, g3⟩
          obtain ⟨a6, c6, rfl, _⟩ := g1.rd
          have B := ints_in HG.out HBK.out (by omega) g1 g2 g3 (by omega)
          clear A g1 g2 g3
          go_wp2_with fail
          refine B.mono ?_
          rintro e w7 ⟨rfl, O2, rs, T, k1, k2, k3, _, _⟩
          obtain ⟨a7, c7, hv7, x1, x2, x3⟩ := k3.rd
          simp only [Value.slice.injEq, true_and] at hv7
          obtain ⟨rfl, rfl⟩ := hv7
          rw [Nat.mul_one] at x3
          have G2 := Lib.hid k1
          have B2 := Lib.hid k2
          have HP7 := Lib.hid (And.intro (And.intro x1 x2) x3)
          have P := R.out w7 (H4.out.trans' k1.ch)
          clear B k1 k2 k3 x1 x2 x3
          go_wp2_with fail
          refine P.mono ?_
          rintro e w8 ⟨v8, q8, rfl, g1, g2, g3⟩
          obtain ⟨r8, t8, u8⟩ := Row.trimP g1
          obtain ⟨a8, c8, rfl, y1, y2, y3⟩ := t8.rd
          rw [Nat.mul_one] at y3
          have G3 := Lib.hid (G2.out.step g2 (by simp))
          have B3 := Lib.hid (B2.out.ch g2)
          have T8 := Lib.hid t8
          have U8 := Lib.hid (fun y hy => (⟨g3 y (u8 y hy).1, (u8 y hy).2⟩ : w7.heap.size ≤ y ∧ y < w8.heap.size))
          have HY := Lib.hid (And.intro y1 y2)
          have S := SameInts_any w8 a6 a8 l c6 l c8 L L HP7.out.1.1 HP7.out.1.2 y1 y2 (HP7.out.2.ch g2) y3
          rw [show decide (L = L) = true by simp] at S
          clear P g1 g2 g3 t8 u8 y1 y2 y3
          go_wp2_with fail
          refine S.mono ?_
          rintro e w9 ⟨rfl, d, rfl⟩
          have CD := Lib.hid ((Ch.refl [] w8).drewN d)
          generalize w8.drewN d = w9 at *
          have G4 := Lib.hid (G3.out.step CD.out (by simp))
          have B4 := Lib.hid (B3.out.ch CD.out)
          have A := A2.out w9 G4.out.ch
          clear S
          go_wp2_with fail
          refine A.mono ?_
          rintro e wa ⟨va, qa, rfl, g1, g2, g3⟩
          obtain ⟨aa, ca, rfl, _⟩ := g1.rd
          have B := ints_in G4.out B4.out (by omega) g1 g2 g3 (by omega)
          have CA := Lib.hid (CD.out.trans' g2)
          clear A g1 g2 g3
          go_wp2_with fail
          refine B.mono ?_
          rintro e wb ⟨rfl, O3, rs3, T3, k1, k2, k3, k4, k5⟩
          obtain ⟨ab, cb, hvb, x1, x2, x3⟩ := k3.rd
          simp only [Value.slice.injEq, true_and] at hvb
          obtain ⟨rfl, rfl⟩ := hvb
          rw [Nat.mul_one] at x3
          have GG := Lib.hid k1
          have BB := Lib.hid k2
          have y3 : Hp.Rd wb a8 l (ints .i64 L) := by
            have h1 := (T8.out.ch CA.out (by simp)).ch k4 (fun y hy hm => by
              have h2 := k5 y hm
              have h3 := (G2.out.ow y h2).2
              have h4 := (U8.out y hy).1
              omega)
            obtain ⟨a9, c9, hv9, _, _, z3⟩ := h1.rd
            simp only [Value.slice.injEq, true_and] at hv9
            obtain ⟨rfl, rfl⟩ := hv9
            rwa [Nat.mul_one] at z3
          have S := SameInts_any wb aa a8 l ca l c8 L L x1 x2 HY.out.1 HY.out.2 x3 y3
          rw [show decide (L = L) = true by simp] at S
          clear B k1 k2 k3 k4 k5 x1 x2 x3 y3
          go_wp2_with fail
          refine S.mono ?_
          rintro e wc ⟨rfl, d2, rfl⟩
          have CE := Lib.hid ((Ch.refl [] wb).drewN d2)
          generalize wb.drewN d2 = wc at *
          have G5 := Lib.hid (GG.out.step CE.out (by simp))
          have B5 := Lib.hid (BB.out.ch CE.out)
          clear S
          go_wp2_with fail
          go_roundw
          case rel => exact ⟨ii + 1, j + 1, ni + 1 + 1, O3, by first | rfl | go_num, by omega, by omega, by omega, G5.out, B5.out⟩
          case measure => simp [intOf]; omega
      · have eqI : (ii == (N1 : Int)) = false := by simpa using heq
        have A := HPA.out wr HG.out.ch ii
        have hll := HLE.out ii
        cases hok : pathOk h ws ii
        · obtain ⟨e1, e2, e3⟩ := path_no hok
          have hrs : mv = false ∨ (mv = true ∧ ii < 0) ∨ (mv = true ∧ ¬ ii < 0 ∧ (n : Int) ≤ ii) := by
            unfold pathOk at hok
            rw [HMV.out, ← HN.out] at hok
            cases mv
            · exact .inl rfl
            · rcases Int.lt_or_le ii 0 with h1 | h1
              · exact .inr (.inl ⟨rfl, h1⟩)
              · refine .inr (.inr ⟨rfl, by omega, ?_⟩)
                simp at hok
                exact hok h1
          rw [e1, e2, e3] at A
          simp only [List.length_nil] at A
          clear e1 e2 e3 hok hll
          rcases hrs with rfl | ⟨rfl, hK⟩ | ⟨rfl, hK, hK2⟩
          · as_aux_lemma =>
            go_wp2_with fail
            refine A.mono ?_
            rintro e w6 ⟨v6, q6, rfl, g1, g2, g3⟩
            obtain ⟨a6, c6, rfl, _⟩ := g1.rd
            have B := ints_in HG.out HBK.out (by omega) g1 g2 g3 (by omega)
            clear A g1 g2 g3
            go_wp2_with fail
            refine B.mono ?_
            rintro e w7 ⟨rfl, O2, rs, T, k1, k2, _, _, _⟩
            have GG := Lib.hid k1
            have BB := Lib.hid k2
            clear B k1 k2
            go_wp2_with fail
            go_roundw
            case rel => exact ⟨ii + 1, j + 1, ni + 1, O2, by first | rfl | go_num, by omega, by omega, by omega, GG.out, BB.out⟩
            case measure => simp [intOf]; omega
          · as_aux_lemma =>
            go_wp2_with fail
            refine A.mono ?_
            rintro e w6 ⟨v6, q6, rfl, g1, g2, g3⟩
            obtain ⟨a6, c6, rfl, _⟩ := g1.rd
            have B := ints_in HG.out HBK.out (by omega) g1 g2 g3 (by omega)
            clear A g1 g2 g3
            go_wp2_with fail
            refine B.mono ?_
            rintro e w7 ⟨rfl, O2, rs, T, k1, k2, _, _, _⟩
            have GG := Lib.hid k1
            have BB := Lib.hid k2
            clear B k1 k2
            go_wp2_with fail
            go_roundw
            case rel => exact ⟨ii + 1, j + 1, ni + 1, O2, by first | rfl | go_num, by omega, by omega, by omega, GG.out, BB.out⟩
            case measure => simp [intOf]; omega
          · as_aux_lemma =>
            go_wp2_with fail
            refine A.mono ?_
            rintro e w6 ⟨v6, q6, rfl, g1, g2, g3⟩
            obtain ⟨a6, c6, rfl, _⟩ := g1.rd
            have B := ints_in HG.out HBK.out (by omega) g1 g2 g3 (by omega)
            clear A g1 g2 g3
            go_wp2_with fail
            refine B.mono ?_
            rintro e w7 ⟨rfl, O2, rs, T, k1, k2, _, _, _⟩
            have GG := Lib.hid k1
            have BB := Lib.hid k2
            clear B k1 k2
            go_wp2_with fail
            go_roundw
            case rel => exact ⟨ii + 1, j + 1, ni + 1, O2, by first | rfl | go_num, by omega, by omega, by omega, GG.out, BB.out⟩
            case measure => simp [intOf]; omega
        · as_aux_lemma =>
          obtain ⟨e1, e2, k, hk, hkl⟩ := path_yes hok
          have hmvt : mv = true := by rw [← HMV.out, e2]
          subst hmvt
          rw [e1] at A
          have A2 := Lib.hid (fun (w1 : World) (c : Ch [] w4 w1) => HPA.out w1 c ii)
          rw [e1] at A2
          have R := Lib.hid (fun (w1 : World) (c : Ch [] w w1) => HRP.out w1 c k (by rw [HN.out]; exact hkl) (by first | exact e2 | rfl | exact HMV.out))
          rw [← hk] at R
          have hK0 : ¬ ii < 0 := by omega
          have hKn : ¬ (n : Int) ≤ ii := by rw [HN.out]; omega
          have hKn2 : ii < (n : Int) := by rw [HN.out]; omega
          clear hok e1 e2 hkl
          generalize pathIs h ws ii = is at *
          generalize pathR h ws ii = L at *
          obtain ⟨l, hl⟩ : ∃ l, l = L.length := ⟨_, rfl⟩
          rw [← hl] at A A2 R hll
          have HK := Lib.hid hk
          clear hl hk
          go_wp2_with fail
          refine A.mono ?_
          rintro e w6 ⟨v6, q6, rfl, g1, g2, g3⟩
          obtain ⟨a6, c6, rfl, _⟩ := g1.rd
          have B := ints_in HG.out HBK.out (by omega) g1 g2 g3 (by omega)
          clear A g1 g2 g3
          go_wp2_with fail
          refine B.mono ?_
          rintro e w7 ⟨rfl, O2, rs, T, k1, k2, k3, _, _⟩
          obtain ⟨a7, c7, hv7, x1, x2, x3⟩ := k3.rd
          simp only [Value.slice.injEq, true_and] at hv7
          obtain ⟨rfl, rfl⟩ := hv7
          rw [Nat.mul_one] at x3
          have G2 := Lib.hid k1
          have B2 := Lib.hid k2
          have HP7 := Lib.hid (And.intro (And.intro x1 x2) x3)
          have P := R.out w7 (H4.out.trans' k1.ch)
          clear B k1 k2 k3 x1 x2 x3
          go_wp2_with fail
          refine P.mono ?_
          rintro e w8 ⟨v8, q8, rfl, g1, g2, g3⟩
          obtain ⟨r8, t8, u8⟩ := Row.trimP g1
          obtain ⟨a8, c8, rfl, y1, y2, y3⟩ := t8.rd
          rw [Nat.mul_one] at y3
          have G3 := Lib.hid (G2.out.step g2 (by simp))
          have B3 := Lib.hid (B2.out.ch g2)
          have T8 := Lib.hid t8
          have U8 := Lib.hid (fun y hy => (⟨g3 y (u8 y hy).1, (u8 y hy).2⟩ : w7.heap.size ≤ y ∧ y < w8.heap.size))
          have HY := Lib.hid (And.intro y1 y2)
          have S := SameInts_any w8 a6 a8 l c6 l c8 L L HP7.out.1.1 HP7.out.1.2 y1 y2 (HP7.out.2.ch g2) y3
          rw [show decide (L = L) = true by simp] at S
          clear P g1 g2 g3 t8 u8 y1 y2 y3
          go_wp2_with fail
          refine S.mono ?_
          rintro e w9 ⟨rfl, d, rfl⟩
          have CD := Lib.hid ((Ch.refl [] w8).drewN d)
          generalize w8.drewN d = w9 at *
          have G4 := Lib.hid (G3.out.step CD.out (by simp))
          have B4 := Lib.hid (B3.out.ch CD.out)
          have A := A2.out w9 G4.out.ch
          clear S
          go_wp2_with fail
          refine A.mono ?_
          rintro e wa ⟨va, qa, rfl, g1, g2, g3⟩
          obtain ⟨aa, ca, rfl, _⟩ := g1.rd
          have B := ints_in G4.out B4.out (by omega) g1 g2 g3 (by omega)
          have CA := Lib.hid (CD.out.trans' g2)
          clear A g1 g2 g3
          go_wp2_with fail
          refine B.mono ?_
          rintro e wb ⟨rfl, O3, rs3, T3, k1, k2, k3, k4, k5⟩
          obtain ⟨ab, cb, hvb, x1, x2, x3⟩ := k3.rd
          simp only [Value.slice.injEq, true_and] at hvb
          obtain ⟨rfl, rfl⟩ := hvb
          rw [Nat.mul_one] at x3
          have GG := Lib.hid k1
          have BB := Lib.hid k2
          have y3 : Hp.Rd wb a8 l (ints .i64 L) := by
            have h1 := (T8.out.ch CA.out (by simp)).ch k4 (fun y hy hm => by
              have h2 := k5 y hm
              have h3 := (G2.out.ow y h2).2
              have h4 := (U8.out y hy).1
              omega)
            obtain ⟨a9, c9, hv9, _, _, z3⟩ := h1.rd
            simp only [Value.slice.injEq, true_and] at hv9
            obtain ⟨rfl, rfl⟩ := hv9
            rwa [Nat.mul_one] at z3
          have S := SameInts_any wb aa a8 l ca l c8 L L x1 x2 HY.out.1 HY.out.2 x3 y3
          rw [show decide (L = L) = true by simp] at S
          clear B k1 k2 k3 k4 k5 x1 x2 x3 y3
          go_wp2_with fail
          refine S.mono ?_
          rintro e wc ⟨rfl, d2, rfl⟩
          have CE := Lib.hid ((Ch.refl [] wb).drewN d2)
          generalize wb.drewN d2 = wc at *
          have G5 := Lib.hid (GG.out.step CE.out (by simp))
          have B5 := Lib.hid (BB.out.ch CE.out)
          clear S
          go_wp2_with fail
          go_roundw
          case rel => exact ⟨ii + 1, j + 1, ni + 1 + 1, O3, by first | rfl | go_num, by omega, by omega, by omega, G5.out, B5.out⟩
          case measure => simp [intOf]; omega
    · as_aux_lemma =>
      have hle : ¬ ii ≤ (N1 : Int) := by omega
      have hgt : (N1 : Int) < ii := by omega
      have HRZ : Hid (∀ x, O x ≠ 0 → w4.heap.size ≤ x) := Lib.hid (fun x hx => (HG.out.ow x hx).1)
      have CW := Lib.hid (H4.out.trans' hgg.ch)
      have WC := WholeCells_any wr qc ao n cap h (by omega) HN.out.symm (hgg.ch.heap HQC.out (by simp)) (RdF.rd (HR.out.ch CW.out (by simp) (T' := [])))
      clear hgg hbk HPA HRP
      go_wp2_with fail
      refine WC.mono ?_
      rintro e wd ⟨rfl, d, rfl⟩
      have CD : Hid (Ch [] wr (wr.drewN d)) := Lib.hid ((Ch.refl _ _).drewN d)
      clear WC
      generalize wr.drewN d = wd at *
      have WW := WholeWords_any wd qr aw m cw ws (by omega) HCW.out.1 HCW.out.2 HM.out.symm ((HG.out.ch.trans' CD.out).heap HQR.out (by simp)) (RdF.rd (HRW.out.ch (CW.out.trans' CD.out) (by simp) (T' := [])))
      go_wp2_with fail
      refine WW.mono ?_
      rintro e we ⟨rfl, d2, rfl⟩
      have CE : Hid (Ch [] wr (wd.drewN d2)) := Lib.hid (CD.out.drewN d2)
      clear WW CD
      generalize wd.drewN d2 = we at *
      have HGE := Lib.hid (HG.out.step CE.out (by simp))
      have HBE := Lib.hid (HBK.out.ch CE.out)
      clear HG HBK CE CW
      have SP := SpoilCells_any we qc n (flat (h ++ [mk1, mk2])).toArray (by omega) (by simp [flat_len, ← HN.out]) (HGE.out.ch.heap HQC.out (by simp))
      go_wp2_with fail
      refine SP.mono ?_
      rintro e wa ⟨rfl, ca⟩
      have CA := Lib.hid ca
      have SP := SpoilWords_any wa qr m ws (by omega) HM.out.symm (ca.heap (HGE.out.ch.heap HQR.out (by simp)) (by have := HQL.out; simp; omega))
      clear ca
      go_wp2_with fail
      refine SP.mono ?_
      rintro e wb ⟨rfl, cb⟩
      have CB : Hid (Ch [qc, qr] we wb) := Lib.hid ((CA.out.mono (by simp)).trans' (cb.mono (by simp)))
      have hz9 : ∀ x, x ∈ [qc, qr] → O x = 0 := fun x hx => Decidable.byContradiction fun hne => by
        have h1 := HRZ.out x hne
        have h3 := HQL.out
        simp at hx
        rcases hx with rfl | rfl <;> omega
      have OW := Own_bk4 (HBE.out.keep CB.out (Ext.refl O) (fun x hx => by rw [hz9 x hx]; omega)) (by omega) (by omega) (by omega) (by omega)
      clear SP cb hz9
      go_wp2_with fail
      refine OW.mono ?_
      rintro e wc ⟨rfl, T, hT, hO⟩
      have HT := Lib.hid hT
      have HO := Lib.hid hO
      clear OW hT hO
      go_wp2_with fail
      go_ret
      exact ⟨by simp, (((H4.out.trans' HGE.out.ch)).trans CB.out (fun x hx => .inr (by have := HQL.out; simp at hx; rcases hx with rfl | rfl <;> omega))).trans HT.out (fun x hx => .inr (by have h1 := HRZ.out x (by have := HO.out x hx; omega); have := H4.out.size; omega))⟩
end Go.Proofs.YtggijcebobjghaaDoor.L10
