/-
  THE WALK of MarkDoes.
-/
import Derived.Test.YtefamhdkfdgdjaaDoorQMDoesL
import Derived.Test.YtefamhdkfdgdjaaDoorQLaw15
import Derived.BigQuiet
set_option linter.unusedVariables false
set_option linter.unusedSimpArgs false
set_option maxRecDepth 100000
namespace Go.Proofs.YtefamhdkfdgdjaaDoor.L15
open Go.RowKit Go.Proofs.YtefamhdkfdgdjaaDoor.Wd Go.Proofs.YtefamhdkfdgdjaaDoor.Hp Go.Proofs.YtefamhdkfdgdjaaDoor.Cp Go.Proofs.YtefamhdkfdgdjaaDoor.Cl Go.Proofs.YtefamhdkfdgdjaaDoor.Mk Go.Proofs.YtefamhdkfdgdjaaDoor.R03 Go.Proofs.YtefamhdkfdgdjaaDoor.R15 Go.Proofs.YtefamhdkfdgdjaaDoor.Sm Go.Proofs.YtefamhdkfdgdjaaDoor.Own
set_option maxHeartbeats 16000000 in
theorem MarkDoes_any (w : World) (ao : Option Addr) (n cap : Nat) (cs : List Cel) (hl : cs.length = n) (hn : n ≤ 140737488351232) (hr : Hp.Rd w ao (n * 4) (Cl.flat cs)) (hi : ∀ x ∈ cs, InC x)
    (bo : Option Addr) (m cb : Nat) (sc : List Stp) (hml : sc.length = m) (hm : m ≤ 140737488351232) (hb : m = 0 ∨ ∃ b off, bo = some ⟨b, off, none⟩ ∧ ∀ i t, i < m → t < 7 → w.cell? ⟨b, off + (i * 7 + t), none⟩ = (stC (sc.getD i zS))[t]?)
    (hso : ∀ i, i < m → StpOk w (sc.getD i zS)) (hlen : ∀ i, i < m → (sc.getD i zS).ws.length ≤ 140737488351232 ∧ (sc.getD i zS).cs.length ≤ 140737488351232) (hbd : Bnd w) :
    Calls Tryd.prog 4 #[.slice ao n cap, .slice bo m cb] w fun e w' => e = .returned (.bool true) ∧ Ch [] w w' := by
  have K := works_any w hbd
  have HR := Lib.hid hr
  have HL := Lib.hid hl
  have HI := Lib.hid hi
  have HB := Lib.hid hb
  have HSO := Lib.hid hso
  have HLEN := Lib.hid hlen
  have HBD := Lib.hid hbd
  have HTG := Lib.hid (tot_ge sc)
  clear hr hl hi hml hb hso hlen hbd
  go_enter Tryd.func4, Tryd.ntmps4
  go_wp2_with fail
  refine K.mono ?_
  rintro e w2 ⟨rfl, c2⟩
  have C2 := Lib.hid c2
  clear K c2
  go_wp2_with fail
  go_loopw [7, 6] (fun i nn wr => ∃ (j N : Nat), i = .int .i64 j ∧ j ≤ m ∧ nn = .int .i64 N ∧ N = tot sc j ∧ (∀ k, k < j → tot sc k ≤ 20000) ∧ Ch [] w2 wr) (fun i _ _ => m - (intOf i).toNat)
  case atStart => exact ⟨0, 0, rfl, by omega, rfl, rfl, fun k hk => absurd hk (by omega), Ch.refl _ _⟩
  case round =>
    obtain ⟨j, N, rfl, hj, rfl, hN, hk, hc⟩ := hrel
    have HN := Lib.hid hN
    have HKK := Lib.hid hk
    have HC := Lib.hid hc
    have hN2 : N ≤ 20000 + 1 + 140737488351232 + 140737488351232 := by
      rw [hN]
      cases j with
      | zero => simp [tot]
      | succ k =>
        have h1 := hk k (by omega)
        have h2 := HLEN.out k (by omega)
        simp only [tot, cost]; omega
    clear hN hk hc
    by_cases hlt : j < m
    · have ltJ : (j : Int) < m := by omega
      by_cases hle : N ≤ 20000
      · as_aux_lemma =>
        have leI : (N : Int) ≤ 20000 := by omega
        obtain ⟨b, off, rfl, hcell⟩ := HB.out.resolve_left (by omega)
        have k1 : w.cell? ⟨b, off + (j * 7 + 1), none⟩ = some (.slice (sc.getD j zS).aw (sc.getD j zS).ws.length (sc.getD j zS).cw) := hcell j 1 hlt (by omega)
        have k2 : w.cell? ⟨b, off + (j * 7 + 2), none⟩ = some (.slice (sc.getD j zS).ac (sc.getD j zS).cs.length (sc.getD j zS).cc) := hcell j 2 hlt (by omega)
        simp only [← Nat.add_assoc] at k1 k2
        have a1 := HC.out.cell (C2.out.cell k1 (by simp)) (by simp)
        have a2 := HC.out.cell (C2.out.cell k2 (by simp)) (by simp)
        have hl2 := HLEN.out j hlt
        have HT : Hid (tot sc (j + 1) = N + 1 + (sc.getD j zS).ws.length + (sc.getD j zS).cs.length) := Lib.hid (by simp only [tot, cost]; rw [← HN.out]; omega)
        clear k1 k2 hcell
        generalize (sc.getD j zS).ws.length = n1 at *
        generalize (sc.getD j zS).cs.length = n2 at *
        generalize (sc.getD j zS).aw = x1 at *
        generalize (sc.getD j zS).ac = x2 at *
        generalize (sc.getD j zS).cw = y1 at *
        generalize (sc.getD j zS).cc = y2 at *
        go_wp2_with fail
        go_quiet (fail)
        go_wp2_with fail
        go_roundw
        case rel => exact ⟨j + 1, N + 1 + n1 + n2, by go_num, by omega, by go_num, HT.out.symm, fun k hk => by
          rcases (show k < j ∨ k = j by omega) with h | h
          · exact HKK.out k h
          · rw [h, ← HN.out]; exact hle, HC.out.drewN _⟩
        case measure => simp [intOf]; omega
      · as_aux_lemma =>
        have leI : ¬ (N : Int) ≤ 20000 := by omega
        have leJ : (decide ((20000 : Int) < (N : Int))) = true := by simp; omega
        go_wp2_with fail
        go_ret
        exact ⟨rfl, C2.out.trans' HC.out⟩
    · have ltJ : ¬ (j : Int) < m := by omega
      obtain rfl : j = m := by omega
      by_cases hle : N ≤ 20000
      · have leJ : (decide ((20000 : Int) < (N : Int))) = false := by simp; omega
        have HTM : Hid (tot sc j ≤ 20000) := Lib.hid (by rw [← HN.out]; exact hle)
        have hm2 : j ≤ 20000 := by have := HTG.out j; have := HTM.out; omega
        obtain ⟨wb, hwb⟩ : ∃ wb, wb = wr := ⟨_, rfl⟩
        subst hwb
        have HCW := Lib.hid (C2.out.trans' HC.out)
        have M := made_any wb ao n cap cs HL.out hn (HR.out.ch HCW.out) HI.out
        have HSW : Hid (∀ k, k < j → StpOk wb (sc.getD k zS)) := Lib.hid (fun k hk => (HSO.out k hk).ch HCW.out)
        have HBW : Hid (Bnd wb) := Lib.hid (Bnd.ch HBD.out HCW.out (by simp))
        have HCE : Hid (∀ b off, bo = some ⟨b, off, none⟩ → (∀ i t, i < j → t < 7 → w.cell? ⟨b, off + (i * 7 + t), none⟩ = (stC (sc.getD i zS))[t]?) → True) := Lib.hid (fun _ _ _ _ => trivial)
        clear hle hN2 ltJ
        go_wp2_with fail
        refine M.mono ?_
        rintro e w4 ⟨p, s, F, rp, rb, rfl, hh⟩
        have HH4 := Lib.hid hh
        have NW := Mk.New_any w4 p s F (madeL cs) hh.is
        clear M hh
        generalize madeL cs = l0 at *
        go_wp2_with fail
        refine NW.mono ?_
        rintro e w5 ⟨rfl, g1, g2⟩
        have D0 := Lib.hid (DS.start HH4.out g1 rfl g2 (by obtain ⟨_, k1, _⟩ := g1.hm; exact lt_of k1))
        unfold bookArr at D0
        clear NW g1 g2
        generalize w4.heap.size = mp at *
        go_wp2_with fail
        generalize (w5.alloc (.cells #[.pointer (some ⟨rp, 0, none⟩), .slice none 0 0] 40)).alloc (.cells #[.slice none 0 0, .slice none 0 0, .slice none 0 0, .slice none 0 0, .slice none 0 0, .slice none 0 0, .slice none 0 0, .slice none 0 0, .slice none 0 0, .slice none 0 0, .slice none 0 0, .slice none 0 0, .slice none 0 0, .slice none 0 0, .slice none 0 0, .slice none 0 0, .slice none 0 0] 60) = w7 at *
        generalize w5.heap.size + 1 = bp at *
        generalize w5.heap.size = qp at *
        generalize put (put (put (fun _ => 0) 1 (mp :: F)) 2 [qp, rp, rb]) 5 [bp] = O0 at *
        go_loopw [13] (fun i wx => ∃ (k : Nat) (O : Nat → Nat) (ni : Nat) (F rq : List Nat) (l : List Cel) (row : List Int) (rq2 : List Nat), i = .int .i64 k ∧ k ≤ j ∧ DS wb wx O bp ni mp p s F rq l row qp rp rb rq2 l row ∧ ni ≤ 2 * k ∧ row.length ≤ tot sc k) (fun i _ => j - (intOf i).toNat)
        case atStart => exact ⟨0, _, 0, F, [], l0, [], [], rfl, by omega, D0.out, by omega, by simp⟩
        case round =>
          obtain ⟨k, O, ni, F2, rq, l, row, rq2, rfl, hk, d, hni, hrow⟩ := hrel
          have D := Lib.hid d
          have HRW := Lib.hid hrow
          have hr1 : row.length ≤ 20000 := by have := tot_mono sc hk; have := HTM.out; omega
          clear d hrow D0
          by_cases hlt : k < j
          · have ltK : (k : Int) < j := by omega
            obtain ⟨b, off, rfl, hcell⟩ := HB.out.resolve_left (by omega)
            have hA : ∀ t, t < 7 → wr.cell? ⟨b, off + (k * 7 + t), none⟩ = (stC (sc.getD k zS))[t]? := fun t ht => by
              have h := hcell k t hlt ht
              obtain ⟨u, hu⟩ : ∃ u, (stC (sc.getD k zS))[t]? = some u := ⟨_, List.getElem?_eq_getElem (by simp [stC, opA]; omega)⟩
              rw [hu] at h ⊢
              exact D.out.g.ch.cell (HCW.out.cell h (by simp)) (by simp)
            have a0 : wr.cell? ⟨b, off + (k * 7 + 0), none⟩ = some (.int .i64 (sc.getD k zS).kd) := hA 0 (by omega)
            have a1 : wr.cell? ⟨b, off + (k * 7 + 1), none⟩ = some (.slice (sc.getD k zS).aw (sc.getD k zS).ws.length (sc.getD k zS).cw) := hA 1 (by omega)
            have a2 : wr.cell? ⟨b, off + (k * 7 + 2), none⟩ = some (.slice (sc.getD k zS).ac (sc.getD k zS).cs.length (sc.getD k zS).cc) := hA 2 (by omega)
            have a3 : wr.cell? ⟨b, off + (k * 7 + 3), none⟩ = some (.int .i64 (sc.getD k zS).ce) := hA 3 (by omega)
            have a4 : wr.cell? ⟨b, off + (k * 7 + 4), none⟩ = some (.int .u8 (sc.getD k zS).cC) := hA 4 (by omega)
            have a5 : wr.cell? ⟨b, off + (k * 7 + 5), none⟩ = some (.int .u8 (sc.getD k zS).cD) := hA 5 (by omega)
            have a6 : wr.cell? ⟨b, off + (k * 7 + 6), none⟩ = some (.int .u64 (sc.getD k zS).ow) := hA 6 (by omega)
            simp only [Nat.add_zero, ← Nat.add_assoc] at a0 a1 a2 a3 a4 a5 a6
            have hcost := cost_le sc hlt
            have ST := step_any (kd := (sc.getD k zS).kd) (ce := (sc.getD k zS).ce) D.out ((HSW.out k hlt).opI (by have := HTM.out; omega)) HBW.out (by omega) (by omega)
            have HT : Hid (tot sc (k + 1) = tot sc k + (1 + (sc.getD k zS).ws.length + (sc.getD k zS).cs.length)) := Lib.hid (by simp only [tot, cost])
            unfold opA at ST
            clear hA hcell hcost
            generalize (sc.getD k zS).kd = y0 at *
            generalize (sc.getD k zS).aw = y1 at *
            generalize (sc.getD k zS).cw = y2 at *
            generalize (sc.getD k zS).ws.length = y3 at *
            generalize (sc.getD k zS).ac = y4 at *
            generalize (sc.getD k zS).cc = y5 at *
            generalize (sc.getD k zS).cs.length = y6 at *
            generalize (sc.getD k zS).ce = y7 at *
            generalize (sc.getD k zS).cC = y8 at *
            generalize (sc.getD k zS).cD = y9 at *
            generalize (sc.getD k zS).ow = y10 at *
            go_wp2_with fail
            refine ST.mono ?_
            rintro e w8 ⟨rfl, O2, ni2, F3, rq3, l3, row3, rq4, d2, h1, h2⟩
            have D2 := Lib.hid d2
            have H2 := Lib.hid h2
            clear ST d2 h2 a0 a1 a2 a3 a4 a5 a6
            go_wp2_with fail
            go_roundw
            case rel => exact ⟨k + 1, O2, ni2, F3, rq3, l3, row3, rq4, by go_num, by omega, D2.out, by omega, by have := H2.out; have := HRW.out; have := HT.out; omega⟩
            case measure => simp [intOf]; omega
          · have ltK : ¬ (k : Int) < j := by omega
            obtain rfl : j = k := by omega
            have HNI : Hid (ni ≤ 40000) := Lib.hid (by omega)
            have S4 := step_any (kd := 4) (ce := 0) D.out (zero_opI wb) HBW.out (by omega) (by omega)
            unfold opA at S4
            clear ltK hk
            go_wp2_with fail
            refine S4.mono ?_
            rintro e w8 ⟨rfl, O2, ni2, F3, rq3, l3, row3, rq4, d2, h1, h2⟩
            have D2 := Lib.hid d2
            have h3 : row3.length ≤ 20001 := by simp at h2; omega
            have S8 := step_any (kd := 8) (ce := 0) d2 (zero_opI wb) HBW.out (by omega) (by omega)
            unfold opA at S8
            clear S4 d2 h2 D
            go_wp2_with fail
            refine S8.mono ?_
            rintro e w9 ⟨rfl, O4, ni4, F4, rq5, l4, row4, rq6, d4, h4, h5⟩
            have D4 := Lib.hid d4
            have h6 : row4.length ≤ 20002 := by simp at h5; omega
            have OW := Own_bk d4.bk (by omega)
            clear S8 d4 h5 D2
            go_wp2_with fail
            refine OW.mono ?_
            rintro e w10 ⟨rfl, T, t1, t2⟩
            have D5 := D4.out.own t1 t2
            have S9 := step_any (kd := 4) (ce := 0) D5 (zero_opI wb) HBW.out (by omega) (by omega)
            unfold opA at S9
            unfold bookArr at S9
            clear OW t1 t2 D4 D5
            go_wp2_with fail
            refine S9.mono ?_
            rintro e w11 ⟨rfl, O6, ni6, F6, rq7, l6, row6, rq8, d6, h7, h8⟩
            have HZ := Lib.hid (HCW.out.trans' d6.g.ch)
            clear S9 d6 h8
            go_wp2_with fail
            go_ret
            exact ⟨rfl, HZ.out⟩
      · as_aux_lemma =>
        have leJ : (decide ((20000 : Int) < (N : Int))) = true := by simp; omega
        go_wp2_with fail
        go_ret
        exact ⟨rfl, C2.out.trans' HC.out⟩
end Go.Proofs.YtefamhdkfdgdjaaDoor.L15
