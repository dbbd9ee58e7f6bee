/-
  THE WALK of dapplelaw15.apart: nothing black names a white one.
-/
import Derived.Test.YtefamhdkfdgdjaaDoorQMade
set_option linter.unusedVariables false
set_option linter.unusedSimpArgs false
set_option maxRecDepth 100000
namespace Go.Proofs.YtefamhdkfdgdjaaDoor.L15
open Go.RowKit Go.Proofs.YtefamhdkfdgdjaaDoor.Wd Go.Proofs.YtefamhdkfdgdjaaDoor.Hp Go.Proofs.YtefamhdkfdgdjaaDoor.Cp Go.Proofs.YtefamhdkfdgdjaaDoor.Cl Go.Proofs.YtefamhdkfdgdjaaDoor.Mk Go.Proofs.YtefamhdkfdgdjaaDoor.R03
def Apart (l : List Cel) : Prop := ∀ c, c < l.length → (l.getD c free).c = 2 → ∀ v, v = (l.getD c free).a ∨ v = (l.getD c free).b → isRef v = true → cellN v < l.length → (l.getD (cellN v).toNat free).k ≠ 0 → (l.getD (cellN v).toNat free).c ≠ 0
theorem look {w : World} {sb : Nat} {l : List Cel} (hs : w.heap[sb]? = some (.cells (Cl.flat l).toArray 86 (0, 0))) (v : Int) (ha : isRef v = true → cellN v < l.length → (l.getD (cellN v).toNat free).k ≠ 0 → (l.getD (cellN v).toNat free).c ≠ 0) :
    isRef v = false ∨ (isRef v = true ∧ (l.length : Int) ≤ cellN v) ∨ (isRef v = true ∧ ∃ (m : Nat) (k c : Int), cellN v = m ∧ m < l.length ∧ w.cell? ⟨sb, m * 4, none⟩ = some (.int .u8 k) ∧ w.cell? ⟨sb, m * 4 + 1, none⟩ = some (.int .u8 c) ∧ (k = 0 ∨ (k ≠ 0 ∧ c ≠ 0))) := by
  cases hr : isRef v
  · exact .inl rfl
  · by_cases hl : cellN v < l.length
    · have hrg := cellN_range v
      refine .inr (.inr ⟨rfl, (cellN v).toNat, (l.getD (cellN v).toNat free).k, (l.getD (cellN v).toNat free).c, by omega, by omega, ?_, ?_, ?_⟩)
      · have := Cl.flat_get l (cellN v).toNat 0 (by omega) (by omega)
        rw [cell_at hs, List.getElem?_toArray]; exact this
      · have := Cl.flat_get l (cellN v).toNat 1 (by omega) (by omega)
        rw [cell_at hs, List.getElem?_toArray]; exact this
      · by_cases hk : (l.getD (cellN v).toNat free).k = 0
        · exact .inl hk
        · exact .inr ⟨hk, ha hr hl hk⟩
    · exact .inr (.inl ⟨rfl, by omega⟩)
set_option maxHeartbeats 8000000 in
theorem apart_any (w : World) (p s : Nat) (F : List Nat) (l : List Cel) (h : Cl.Is w p s F l) (hb : Bnd w) (hap : Apart l) :
    Calls Tryd.prog 14 #[.pointer (some ⟨p, 0, none⟩)] w fun e w' => e = .returned (.bool true) ∧ Ch [] w w' := by
  have S := Cl.Snapshot_any w p s F l h
  have HOK := Lib.hid h.ok
  have hlen := h.len.2
  have HB := Lib.hid hb
  have HAP := Lib.hid hap
  obtain ⟨n, hnl⟩ : ∃ n, n = l.length := ⟨_, rfl⟩
  rw [← hnl] at S hlen
  have HN := Lib.hid hnl
  obtain ⟨sb, hsb⟩ : ∃ sb, sb = w.heap.size := ⟨_, rfl⟩
  rw [← hsb] at S
  clear h hb hap hnl hsb
  go_enter Tryd.func14, Tryd.ntmps14
  go_wp2_with fail
  refine S.mono ?_
  rintro e w2 ⟨rfl, g1, g2⟩
  have HS := Lib.hid g1
  have HC := Lib.hid g2
  clear S g1 g2
  go_wp2_with fail
  go_loopw [4] (fun i wr => ∃ (j : Nat), i = .int .i64 j ∧ j ≤ n ∧ w2 = wr) (fun i _ => n - (intOf i).toNat)
  case atStart => exact ⟨0, rfl, by omega, rfl⟩
  case round =>
    obtain ⟨j, rfl, hj, rfl⟩ := hrel
    by_cases hlt : j < n
    · have ltJ : (j : Int) < n := by omega
      have hjl : j < l.length := by rw [← HN.out]; exact hlt
      have hA : ∀ t, t < 4 → w2.cell? ⟨sb, j * 4 + t, none⟩ = (cel (l.getD j free)).toList[t]? := fun t ht => by rw [cell_at HS.out, List.getElem?_toArray]; exact Cl.flat_get l j t hjl ht
      have d0 : w2.cell? ⟨sb, j * 4, none⟩ = some (.int .u8 (l.getD j free).k) := hA 0 (by omega)
      have d1 : w2.cell? ⟨sb, j * 4 + 1, none⟩ = some (.int .u8 (l.getD j free).c) := hA 1 (by omega)
      have d2 : w2.cell? ⟨sb, j * 4 + 2, none⟩ = some (.int .u64 (l.getD j free).a) := hA 2 (by omega)
      have d3 : w2.cell? ⟨sb, j * 4 + 3, none⟩ = some (.int .u64 (l.getD j free).b) := hA 3 (by omega)
      have hok := HOK.out (l.getD j free) (by simp [List.getD_eq_getElem?_getD, hjl])
      have hap := HAP.out j hjl
      generalize l.getD j free = x at *
      obtain ⟨xk, xc, xa, xb⟩ := x
      simp only at d0 d1 d2 d3 hap
      clear hA
      by_cases k0 : xk = 0
      · as_aux_lemma =>
        subst k0
        clear hap hok
        go_wp2_with fail
        go_roundw
        case rel => exact ⟨j + 1, by go_num, by omega, by first | rfl | trivial⟩
        case measure => simp [intOf]; omega
      have hk0 : (xk == 0) = false := beq_eq_false_iff_ne.2 k0
      by_cases c2 : xc = 2
      · subst c2
        have hr : (0 ≤ xa ∧ xa < 18446744073709551616) ∧ (0 ≤ xb ∧ xb < 18446744073709551616) := by
          rcases hok with h | ⟨_, _, _, _, h1, h2, h3, h4⟩
          · have := congrArg Cel.k h; simp [free] at this; exact absurd this k0
          · exact ⟨⟨h1, h2⟩, ⟨h3, h4⟩⟩
        have KA := Wd.Cell_any w2 xa hr.1.1 hr.1.2 (Bnd.ch HB.out HC.out (by simp))
        have KB := Wd.Cell_any w2 xb hr.2.1 hr.2.2 (Bnd.ch HB.out HC.out (by simp))
        have cA := look HS.out xa (fun h1 h2 h3 => hap rfl xa (.inl rfl) h1 h2 h3)
        have cB := look HS.out xb (fun h1 h2 h3 => hap rfl xb (.inr rfl) h1 h2 h3)
        rw [← HN.out] at cA cB
        clear hap hok hr k0
        generalize isRef xa = ra at *
        generalize isRef xb = rb at *
        generalize cellN xa = ya at *
        generalize cellN xb = yb at *
        have HCA := Lib.hid cA
        have HCB := Lib.hid cB
        clear cA cB
        go_wp2_with fail
        refine KA.mono ?_
        rintro e w3 ⟨rfl, rfl⟩
        clear KA
        go_wp2_with fail
        refine KB.mono ?_
        rintro e w3 ⟨rfl, rfl⟩
        clear KB d0 d1 d2 d3
        have cA := HCA.out
        have cB := HCB.out
        clear HCA HCB
        rcases cA with rfl | ⟨rfl, lA⟩ | ⟨rfl, ma, ka, ca, rfl, la, ua, va, hca⟩
        · rcases cB with rfl | ⟨rfl, lB⟩ | ⟨rfl, mb, kb, cb, rfl, lb, ub, vb, hcb⟩
          · as_aux_lemma =>
            go_wp2_with fail
            go_roundw
            case rel => exact ⟨j + 1, by go_num, by omega, by first | rfl | trivial⟩
            case measure => simp [intOf]; omega
          · as_aux_lemma =>
            have lB' : ¬ yb < (n : Int) := by omega
            go_wp2_with fail
            go_roundw
            case rel => exact ⟨j + 1, by go_num, by omega, by first | rfl | trivial⟩
            case measure => simp [intOf]; omega
          · rcases hcb with rfl | hcb
            · as_aux_lemma =>
              have lB' : (mb : Int) < n := by omega
              go_wp2_with fail
              go_roundw
              case rel => exact ⟨j + 1, by go_num, by omega, by first | rfl | trivial⟩
              case measure => simp [intOf]; omega
            · as_aux_lemma =>
              have lB' : (mb : Int) < n := by omega
              have zb : (kb != 0) = true := bne_iff_ne.2 hcb.1
              have yb' : (cb == 0) = false := beq_eq_false_iff_ne.2 hcb.2
              clear hcb
              go_wp2_with fail
              go_roundw
              case rel => exact ⟨j + 1, by go_num, by omega, by first | rfl | trivial⟩
              case measure => simp [intOf]; omega
        · rcases cB with rfl | ⟨rfl, lB⟩ | ⟨rfl, mb, kb, cb, rfl, lb, ub, vb, hcb⟩
          · as_aux_lemma =>
            have lA' : ¬ ya < (n : Int) := by omega
            go_wp2_with fail
            go_roundw
            case rel => exact ⟨j + 1, by go_num, by omega, by first | rfl | trivial⟩
            case measure => simp [intOf]; omega
          · as_aux_lemma =>
            have lA' : ¬ ya < (n : Int) := by omega
            have lB' : ¬ yb < (n : Int) := by omega
            go_wp2_with fail
            go_roundw
            case rel => exact ⟨j + 1, by go_num, by omega, by first | rfl | trivial⟩
            case measure => simp [intOf]; omega
          · rcases hcb with rfl | hcb
            · as_aux_lemma =>
              have lA' : ¬ ya < (n : Int) := by omega
              have lB' : (mb : Int) < n := by omega
              go_wp2_with fail
              go_roundw
              case rel => exact ⟨j + 1, by go_num, by omega, by first | rfl | trivial⟩
              case measure => simp [intOf]; omega
            · as_aux_lemma =>
              have lA' : ¬ ya < (n : Int) := by omega
              have lB' : (mb : Int) < n := by omega
              have zb : (kb != 0) = true := bne_iff_ne.2 hcb.1
              have yb' : (cb == 0) = false := beq_eq_false_iff_ne.2 hcb.2
              clear hcb
              go_wp2_with fail
              go_roundw
              case rel => exact ⟨j + 1, by go_num, by omega, by first | rfl | trivial⟩
              case measure => simp [intOf]; omega
        · rcases hca with rfl | hca
          · rcases cB with rfl | ⟨rfl, lB⟩ | ⟨rfl, mb, kb, cb, rfl, lb, ub, vb, hcb⟩
            · as_aux_lemma =>
              have lA' : (ma : Int) < n := by omega
              go_wp2_with fail
              go_roundw
              case rel => exact ⟨j + 1, by go_num, by omega, by first | rfl | trivial⟩
              case measure => simp [intOf]; omega
            · as_aux_lemma =>
              have lA' : (ma : Int) < n := by omega
              have lB' : ¬ yb < (n : Int) := by omega
              go_wp2_with fail
              go_roundw
              case rel => exact ⟨j + 1, by go_num, by omega, by first | rfl | trivial⟩
              case measure => simp [intOf]; omega
            · rcases hcb with rfl | hcb
              · as_aux_lemma =>
                have lA' : (ma : Int) < n := by omega
                have lB' : (mb : Int) < n := by omega
                go_wp2_with fail
                go_roundw
                case rel => exact ⟨j + 1, by go_num, by omega, by first | rfl | trivial⟩
                case measure => simp [intOf]; omega
              · as_aux_lemma =>
                have lA' : (ma : Int) < n := by omega
                have lB' : (mb : Int) < n := by omega
                have zb : (kb != 0) = true := bne_iff_ne.2 hcb.1
                have yb' : (cb == 0) = false := beq_eq_false_iff_ne.2 hcb.2
                clear hcb
                go_wp2_with fail
                go_roundw
                case rel => exact ⟨j + 1, by go_num, by omega, by first | rfl | trivial⟩
                case measure => simp [intOf]; omega
          · rcases cB with rfl | ⟨rfl, lB⟩ | ⟨rfl, mb, kb, cb, rfl, lb, ub, vb, hcb⟩
            · as_aux_lemma =>
              have lA' : (ma : Int) < n := by omega
              have za : (ka != 0) = true := bne_iff_ne.2 hca.1
              have ya' : (ca == 0) = false := beq_eq_false_iff_ne.2 hca.2
              clear hca
              go_wp2_with fail
              go_roundw
              case rel => exact ⟨j + 1, by go_num, by omega, by first | rfl | trivial⟩
              case measure => simp [intOf]; omega
            · as_aux_lemma =>
              have lA' : (ma : Int) < n := by omega
              have za : (ka != 0) = true := bne_iff_ne.2 hca.1
              have ya' : (ca == 0) = false := beq_eq_false_iff_ne.2 hca.2
              clear hca
              have lB' : ¬ yb < (n : Int) := by omega
              go_wp2_with fail
              go_roundw
              case rel => exact ⟨j + 1, by go_num, by omega, by first | rfl | trivial⟩
              case measure => simp [intOf]; omega
            · rcases hcb with rfl | hcb
              · as_aux_lemma =>
                have lA' : (ma : Int) < n := by omega
                have za : (ka != 0) = true := bne_iff_ne.2 hca.1
                have ya' : (ca == 0) = false := beq_eq_false_iff_ne.2 hca.2
                clear hca
                have lB' : (mb : Int) < n := by omega
                go_wp2_with fail
                go_roundw
                case rel => exact ⟨j + 1, by go_num, by omega, by first | rfl | trivial⟩
                case measure => simp [intOf]; omega
              · as_aux_lemma =>
                have lA' : (ma : Int) < n := by omega
                have za : (ka != 0) = true := bne_iff_ne.2 hca.1
                have ya' : (ca == 0) = false := beq_eq_false_iff_ne.2 hca.2
                clear hca
                have lB' : (mb : Int) < n := by omega
                have zb : (kb != 0) = true := bne_iff_ne.2 hcb.1
                have yb' : (cb == 0) = false := beq_eq_false_iff_ne.2 hcb.2
                clear hcb
                go_wp2_with fail
                go_roundw
                case rel => exact ⟨j + 1, by go_num, by omega, by first | rfl | trivial⟩
                case measure => simp [intOf]; omega
      · as_aux_lemma =>
        have c2' : (xc != 2) = true := bne_iff_ne.2 c2
        clear hap hok c2 k0
        go_wp2_with fail
        go_roundw
        case rel => exact ⟨j + 1, by go_num, by omega, by first | rfl | trivial⟩
        case measure => simp [intOf]; omega
    · as_aux_lemma =>
      obtain rfl : n = j := by omega
      have ltJ : ¬ (n : Int) < n := by omega
      go_wp2_with fail
      go_ret
      exact ⟨rfl, HC.out⟩
end Go.Proofs.YtefamhdkfdgdjaaDoor.L15
