/-
  THE WALK of dapplelaw15.plain: the cells as a heap that stands still.
-/
import Derived.Test.YtefamhdkfdgdjaaDoorQPlainP
import Derived.Deep.RegionHeld3
import Derived.Deep.DeepCutAuto
import Derived.Deep.CutBlock
set_option linter.unusedVariables false
set_option linter.unusedSimpArgs false
set_option maxRecDepth 100000
namespace Go.Proofs.YtefamhdkfdgdjaaDoor.L15
open Go.RowKit Go.Proofs.YtefamhdkfdgdjaaDoor.Wd Go.Proofs.YtefamhdkfdgdjaaDoor.Hp Go.Proofs.YtefamhdkfdgdjaaDoor.Cp Go.Proofs.YtefamhdkfdgdjaaDoor.Cl Go.Proofs.YtefamhdkfdgdjaaDoor.Mk Go.Proofs.YtefamhdkfdgdjaaDoor.R03
set_option maxHeartbeats 8000000 in
theorem plain_any (w : World) (ao : Option Addr) (n cap : Nat) (cs : List Cel) (hl : cs.length = n) (hn : n ≤ 140737488351232) (hr : Hp.Rd w ao (n * 4) (Cl.flat cs)) (hi : ∀ x ∈ cs, InC x) (hb : Bnd w) :
    Calls Tryd.prog 11 #[.slice ao n cap] w fun e w' => ∃ v qs, e = .returned v ∧ Row w' 86 4 v qs 16 (Cl.flat (plainK cs 16)) ∧ Ch [] w w' ∧ ∀ q ∈ qs, w.heap.size ≤ q := by
  have M := Wd.Make_any w 1 0 hb
  rw [show mkW 1 0 = 1 by decide, show mkE 1 0 = 0 by decide] at M
  have HR := Lib.hid hr
  have HI := Lib.hid hi
  have HL := Lib.hid hl
  have HB := Lib.hid hb
  obtain ⟨i0, hi, he⟩ := Option.map_eq_some_iff.1 infoCell
  simp only [Prod.mk.injEq] at he
  obtain ⟨hz0, hz1, hz2⟩ := he
  clear hr hl hb
  go_enter Tryd.func11, Tryd.ntmps11
  go_wp2_with fail
  refine M.mono ?_
  rintro e w1 ⟨rfl, rfl⟩
  clear M
  go_wp2_with fail
  go_loopw [6, 5] (fun i o wr => ∃ (j : Nat) (qs : List Nat), i = .int .i64 j ∧ j ≤ 16 ∧ Row wr 86 4 o qs j (Cl.flat (plainK cs j)) ∧ Ch [] w1 wr ∧ ∀ q ∈ qs, w1.heap.size ≤ q) (fun i o _ => 16 - (intOf i).toNat)
  case atStart => exact ⟨0, [], rfl, by omega, Row.nil _ _ _ _, Ch.refl _ _, by simp⟩
  case round =>
    obtain ⟨j, qs, rfl, hj, hrow, hc, hqs⟩ := hrel
    obtain ⟨aq, cq, rfl, q1, q2, q3⟩ := hrow.rd
    have HROW := Lib.hid hrow
    have HC := Lib.hid hc
    have HQ := Lib.hid hqs
    have HTK := Lib.hid (plainK_next cs j)
    clear q3
    by_cases hlt : j < 16
    · have ltJ : (j : Int) < 16 := by omega
      by_cases hjn : j < n
      · have ltN : (j : Int) < n := by omega
        obtain ⟨bh, oh, rfl, hx⟩ := (HR.out.ch hc).2.resolve_left (by omega)
        have hjl : j < cs.length := by rw [HL.out]; exact hjn
        have HXB : Hid (∀ t, t < 4 → wr.cell? ⟨bh, oh + (j * 4 + t), none⟩ = (cel (cs.getD j free)).toList[t]?) := Lib.hid (fun t ht => (hx (j * 4 + t) (by omega)).trans (Cl.flat_get cs j t hjl ht))
        obtain ⟨i1, i2, i3, i4, i5, i6⟩ := HI.out (cs.getD j free) (by simp [List.getD_eq_getElem?_getD, hjl])
        generalize cs.getD j free = x at *
        obtain ⟨xk, xc, xa, xb⟩ := x
        simp only at i1 i2 i3 i4 i5 i6
        have d0 : wr.cell? ⟨bh, oh + j * 4, none⟩ = some (.int .u8 xk) := HXB.out 0 (by omega)
        have d2 : wr.cell? ⟨bh, oh + j * 4 + 2, none⟩ = some (.int .u64 xa) := HXB.out 2 (by omega)
        have d3 : wr.cell? ⟨bh, oh + j * 4 + 3, none⟩ = some (.int .u64 xb) := HXB.out 3 (by omega)
        have hz := (Ch.refl [] wr).alloc (.cells #[.int .u8 0, .int .u8 0, .int .u64 0, .int .u64 0] 86)
        have e0 := hz.cell d0 (by simp)
        have e2 := hz.cell d2 (by simp)
        have e3 := hz.cell d3 (by simp)
        clear hz
        have HKS : Hid (∀ W, Ch [] wr W → W.cell? ⟨bh, oh + j * 4, none⟩ = some (.int .u8 xk) ∧ W.cell? ⟨bh, oh + j * 4 + 2, none⟩ = some (.int .u64 xa) ∧ W.cell? ⟨bh, oh + j * 4 + 3, none⟩ = some (.int .u64 xb)) := Lib.hid (fun W c => ⟨c.cell d0 (by simp), c.cell d2 (by simp), c.cell d3 (by simp)⟩)
        have HBW : Hid (∀ W, Ch [] wr W → Bnd W) := Lib.hid (fun W c => Bnd.ch HB.out (hc.trans' c) (by simp))
        have OA : ∀ W, Bnd W → _ := fun W hb => Wd.Of_any W xa i5.1 i5.2 hb
        have OB : ∀ W, Bnd W → _ := fun W hb => Wd.Of_any W xb i6.1 i6.2 hb
        have KA : ∀ W, Bnd W → _ := fun W hb => Wd.Cell_any W xa i5.1 i5.2 hb
        have KB : ∀ W, Bnd W → _ := fun W hb => Wd.Cell_any W xb i6.1 i6.2 hb
        clear hx HXB hrow hc hqs i3 i4
        by_cases k1 : 1 ≤ xk
        · have k1' : ¬ xk < 1 := by omega
          by_cases k3 : xk ≤ 3
          · have k3' : ¬ 3 < xk := by omega
            have hpc : plainC ⟨xk, xc, xa, xb⟩ = ⟨xk, 0, fixW xa, fixW xb⟩ := by unfold plainC; rw [if_pos ⟨k1, k3⟩]
            rw [hpc] at HTK
            simp only at HTK
            have cA := fixW_cases xa
            have cB := fixW_cases xb
            clear hpc i5 i6
            generalize fixW xa = fa at *
            generalize fixW xb = fb at *
            generalize cellN xa = ya at *
            generalize cellN xb = yb at *
            generalize isRef xa = ra at *
            generalize isRef xb = rb at *
            generalize ofOk xa = ka at *
            generalize ofOk xb = kb at *
            generalize ofT xa = ta at *
            generalize ofT xb = tb at *
            generalize ofN xa = na at *
            generalize ofN xb = nb at *
            have HCA := Lib.hid cA
            have HCB := Lib.hid cB
            clear cA cB
            go_upto_if 46 with fail
            go_cut [7] (fun v wx => v = .pointer (some ⟨wr.heap.size, 0, none⟩) ∧ wx = (wr.alloc (.cells #[.int .u8 xk, .int .u8 0, .int .u64 fa, .int .u64 fb] 86)).drew)
            case first =>
              go_wp2_with fail
              go_region_held3 (fun w' => w'.cell? ⟨bh, oh + j * 4, none⟩ = some (.int .u8 xk) ∧ w'.cell? ⟨bh, oh + j * 4 + 2, none⟩ = some (.int .u64 xa) ∧ w'.cell? ⟨bh, oh + j * 4 + 3, none⟩ = some (.int .u64 xb)) (refine HKS.out _ ?_ <;> repeat (first | exact Ch.refl _ _ | apply Ch.drew | apply Ch.alloc)) (fail)
              go_wp2_with fail
              refine (OA _ ?_).mono ?_
              · exact HBW.out _ ((((Ch.refl _ _).alloc _).drew))
              rintro e w5 ⟨rfl, rfl⟩
              clear OA
              go_wp2_with fail
              refine (OB _ ?_).mono ?_
              · exact HBW.out _ ((((Ch.refl _ _).alloc _).drew))
              rintro e w5 ⟨rfl, rfl⟩
              clear OB
              go_wp2_with fail
              refine (KA _ ?_).mono ?_
              · exact HBW.out _ ((((Ch.refl _ _).alloc _).drew))
              rintro e w5 ⟨rfl, rfl⟩
              clear KA
              go_wp2_with fail
              refine (KB _ ?_).mono ?_
              · exact HBW.out _ ((((Ch.refl _ _).alloc _).drew))
              rintro e w5 ⟨rfl, rfl⟩
              clear KB d0 d2 d3 e0 e2 e3
              have cA := HCA.out
              have cB := HCB.out
              clear HCA HCB
              rcases cA with ⟨rfl, rfl, fA⟩ | ⟨rfl, rfl, fA⟩ | ⟨rfl, rfl, lA, fA⟩ | ⟨rfl, rfl, lA, fA⟩
              · rcases cB with ⟨rfl, rfl, fB⟩ | ⟨rfl, rfl, fB⟩ | ⟨rfl, rfl, lB, fB⟩ | ⟨rfl, rfl, lB, fB⟩
                · as_aux_lemma =>
                  go_wp2_with fail
                  go_meet
                  exact ⟨rfl, by rw [fA, fB]⟩
                · as_aux_lemma =>
                  go_wp2_with fail
                  go_meet
                  exact ⟨rfl, by rw [fA, fB]⟩
                · as_aux_lemma =>
                  go_wp2_with fail
                  go_meet
                  exact ⟨rfl, by rw [fA, fB]⟩
                · as_aux_lemma =>
                  have lB' : ¬ 16 ≤ yb := by omega
                  go_wp2_with fail
                  go_meet
                  exact ⟨rfl, by rw [fA, fB]⟩
              · rcases cB with ⟨rfl, rfl, fB⟩ | ⟨rfl, rfl, fB⟩ | ⟨rfl, rfl, lB, fB⟩ | ⟨rfl, rfl, lB, fB⟩
                · as_aux_lemma =>
                  go_wp2_with fail
                  go_meet
                  exact ⟨rfl, by rw [fA, fB]⟩
                · as_aux_lemma =>
                  go_wp2_with fail
                  go_meet
                  exact ⟨rfl, by rw [fA, fB]⟩
                · as_aux_lemma =>
                  go_wp2_with fail
                  go_meet
                  exact ⟨rfl, by rw [fA, fB]⟩
                · as_aux_lemma =>
                  have lB' : ¬ 16 ≤ yb := by omega
                  go_wp2_with fail
                  go_meet
                  exact ⟨rfl, by rw [fA, fB]⟩
              · rcases cB with ⟨rfl, rfl, fB⟩ | ⟨rfl, rfl, fB⟩ | ⟨rfl, rfl, lB, fB⟩ | ⟨rfl, rfl, lB, fB⟩
                · as_aux_lemma =>
                  go_wp2_with fail
                  go_meet
                  exact ⟨rfl, by rw [fA, fB]⟩
                · as_aux_lemma =>
                  go_wp2_with fail
                  go_meet
                  exact ⟨rfl, by rw [fA, fB]⟩
                · as_aux_lemma =>
                  go_wp2_with fail
                  go_meet
                  exact ⟨rfl, by rw [fA, fB]⟩
                · as_aux_lemma =>
                  have lB' : ¬ 16 ≤ yb := by omega
                  go_wp2_with fail
                  go_meet
                  exact ⟨rfl, by rw [fA, fB]⟩
              · rcases cB with ⟨rfl, rfl, fB⟩ | ⟨rfl, rfl, fB⟩ | ⟨rfl, rfl, lB, fB⟩ | ⟨rfl, rfl, lB, fB⟩
                · as_aux_lemma =>
                  have lA' : ¬ 16 ≤ ya := by omega
                  go_wp2_with fail
                  go_meet
                  exact ⟨rfl, by rw [fA, fB]⟩
                · as_aux_lemma =>
                  have lA' : ¬ 16 ≤ ya := by omega
                  go_wp2_with fail
                  go_meet
                  exact ⟨rfl, by rw [fA, fB]⟩
                · as_aux_lemma =>
                  have lA' : ¬ 16 ≤ ya := by omega
                  go_wp2_with fail
                  go_meet
                  exact ⟨rfl, by rw [fA, fB]⟩
                · as_aux_lemma =>
                  have lA' : ¬ 16 ≤ ya := by omega
                  have lB' : ¬ 16 ≤ yb := by omega
                  go_wp2_with fail
                  go_meet
                  exact ⟨rfl, by rw [fA, fB]⟩
            case rest =>
              obtain ⟨rfl, rfl⟩ := hcut
              have CAB := Lib.hid (show Ch [] wr ((wr.alloc (.cells #[.int .u8 xk, .int .u8 0, .int .u64 fa, .int .u64 fb] 86)).alloc (.cells #[.int .u8 xk, .int .u8 0, .int .u64 fa, .int .u64 fb] 86)).drew from (((Ch.refl _ _).alloc _).alloc _).drew)
              have HR1 := Lib.hid (HROW.out.ch CAB.out (by simp))
              have HN1 : Hid (∀ i x, ([.int .u8 xk, .int .u8 0, .int .u64 fa, .int .u64 fb] : List Value)[i]? = some x → ((wr.alloc (.cells #[.int .u8 xk, .int .u8 0, .int .u64 fa, .int .u64 fb] 86)).alloc (.cells #[.int .u8 xk, .int .u8 0, .int .u64 fa, .int .u64 fb] 86)).drew.cell? ((⟨wr.heap.size + 1, 0, none⟩ : Addr).add i) = some x) := Lib.hid (newL (w := wr.alloc (.cells #[.int .u8 xk, .int .u8 0, .int .u64 fa, .int .u64 fb] 86)) (b := wr.heap.size + 1) (by simp) [.int .u8 xk, .int .u8 0, .int .u64 fa, .int .u64 fb] 86)
              go_wp2_with (at_builtin; go_loud (refine wpList_append_row _ rfl _ _ 23 rfl 86 i0 _ 4 24 Tryd.underlying23 hi hz0 hz1 hz2 rfl (by decide) rfl HR1.out ⟨wr.heap.size + 1, 0, none⟩ 1 1 [.int .u8 xk, .int .u8 0, .int .u64 fa, .int .u64 fb] rfl rfl HN1.out (one4 _ _ _ _ _ _ _ _) (by unfold maxLen; omega) (by omega) ?_))
              intro v' w8 qs' hr4 hc4 hq4
              have HR4 := Lib.hid hr4
              have HC4 := Lib.hid hc4
              have HQ4 := Lib.hid hq4
              obtain ⟨ao4, cap4, rfl, _⟩ := hr4.rd
              clear hr4 hc4 hq4
              go_wp2_with fail
              go_roundw
              case rel =>
                refine ⟨j + 1, qs', by go_num, by omega, by rw [HTK.out]; exact HR4.out, (HC.out.trans' CAB.out).trans HC4.out (fun x hx => .inr (HQ.out x hx)), fun q hq => ?_⟩
                have s1 := CAB.out.size
                have s3 := HC.out.size
                rcases HQ4.out with e | ⟨q', e, h3, h4⟩
                · rw [e] at hq; exact HQ.out q hq
                · rw [e] at hq; simp at hq; subst hq; omega
              case measure => simp [intOf]; omega
          · as_aux_lemma =>
            have k3' : 3 < xk := by omega
            have hpc : plainC ⟨xk, xc, xa, xb⟩ = free := by unfold plainC; rw [if_neg (by simp; omega)]
            rw [hpc] at HTK
            unfold free at HTK
            simp only at HTK
            clear OA OB KA KB hpc i5 i6
            have CAB := Lib.hid (show Ch [] wr ((wr.alloc (.cells #[.int .u8 0, .int .u8 0, .int .u64 0, .int .u64 0] 86)).alloc (.cells #[.int .u8 0, .int .u8 0, .int .u64 0, .int .u64 0] 86)) from (((Ch.refl _ _).alloc _).alloc _))
            have HR1 := Lib.hid (HROW.out.ch CAB.out (by simp))
            have HN1 : Hid (∀ i x, ([.int .u8 0, .int .u8 0, .int .u64 0, .int .u64 0] : List Value)[i]? = some x → ((wr.alloc (.cells #[.int .u8 0, .int .u8 0, .int .u64 0, .int .u64 0] 86)).alloc (.cells #[.int .u8 0, .int .u8 0, .int .u64 0, .int .u64 0] 86)).cell? ((⟨wr.heap.size + 1, 0, none⟩ : Addr).add i) = some x) := Lib.hid (newL (w := wr.alloc (.cells #[.int .u8 0, .int .u8 0, .int .u64 0, .int .u64 0] 86)) (b := wr.heap.size + 1) (by simp) [.int .u8 0, .int .u8 0, .int .u64 0, .int .u64 0] 86)
            go_wp2_with (at_builtin; go_loud (refine wpList_append_row _ rfl _ _ 23 rfl 86 i0 _ 4 24 Tryd.underlying23 hi hz0 hz1 hz2 rfl (by decide) rfl HR1.out ⟨wr.heap.size + 1, 0, none⟩ 1 1 [.int .u8 0, .int .u8 0, .int .u64 0, .int .u64 0] rfl rfl HN1.out (one4 _ _ _ _ _ _ _ _) (by unfold maxLen; omega) (by omega) ?_))
            intro v' w8 qs' hr4 hc4 hq4
            have HR4 := Lib.hid hr4
            have HC4 := Lib.hid hc4
            have HQ4 := Lib.hid hq4
            obtain ⟨ao4, cap4, rfl, _⟩ := hr4.rd
            clear hr4 hc4 hq4
            go_wp2_with fail
            go_roundw
            case rel =>
              refine ⟨j + 1, qs', by go_num, by omega, by rw [HTK.out]; exact HR4.out, (HC.out.trans' CAB.out).trans HC4.out (fun x hx => .inr (HQ.out x hx)), fun q hq => ?_⟩
              have s1 := CAB.out.size
              have s3 := HC.out.size
              rcases HQ4.out with e | ⟨q', e, h3, h4⟩
              · rw [e] at hq; exact HQ.out q hq
              · rw [e] at hq; simp at hq; subst hq; omega
            case measure => simp [intOf]; omega
        · as_aux_lemma =>
          have k1' : xk < 1 := by omega
          have hpc : plainC ⟨xk, xc, xa, xb⟩ = free := by unfold plainC; rw [if_neg (by simp; omega)]
          rw [hpc] at HTK
          unfold free at HTK
          simp only at HTK
          clear OA OB KA KB hpc i5 i6
          have CAB := Lib.hid (show Ch [] wr ((wr.alloc (.cells #[.int .u8 0, .int .u8 0, .int .u64 0, .int .u64 0] 86)).alloc (.cells #[.int .u8 0, .int .u8 0, .int .u64 0, .int .u64 0] 86)) from (((Ch.refl _ _).alloc _).alloc _))
          have HR1 := Lib.hid (HROW.out.ch CAB.out (by simp))
          have HN1 : Hid (∀ i x, ([.int .u8 0, .int .u8 0, .int .u64 0, .int .u64 0] : List Value)[i]? = some x → ((wr.alloc (.cells #[.int .u8 0, .int .u8 0, .int .u64 0, .int .u64 0] 86)).alloc (.cells #[.int .u8 0, .int .u8 0, .int .u64 0, .int .u64 0] 86)).cell? ((⟨wr.heap.size + 1, 0, none⟩ : Addr).add i) = some x) := Lib.hid (newL (w := wr.alloc (.cells #[.int .u8 0, .int .u8 0, .int .u64 0, .int .u64 0] 86)) (b := wr.heap.size + 1) (by simp) [.int .u8 0, .int .u8 0, .int .u64 0, .int .u64 0] 86)
          go_wp2_with (at_builtin; go_loud (refine wpList_append_row _ rfl _ _ 23 rfl 86 i0 _ 4 24 Tryd.underlying23 hi hz0 hz1 hz2 rfl (by decide) rfl HR1.out ⟨wr.heap.size + 1, 0, none⟩ 1 1 [.int .u8 0, .int .u8 0, .int .u64 0, .int .u64 0] rfl rfl HN1.out (one4 _ _ _ _ _ _ _ _) (by unfold maxLen; omega) (by omega) ?_))
          intro v' w8 qs' hr4 hc4 hq4
          have HR4 := Lib.hid hr4
          have HC4 := Lib.hid hc4
          have HQ4 := Lib.hid hq4
          obtain ⟨ao4, cap4, rfl, _⟩ := hr4.rd
          clear hr4 hc4 hq4
          go_wp2_with fail
          go_roundw
          case rel =>
            refine ⟨j + 1, qs', by go_num, by omega, by rw [HTK.out]; exact HR4.out, (HC.out.trans' CAB.out).trans HC4.out (fun x hx => .inr (HQ.out x hx)), fun q hq => ?_⟩
            have s1 := CAB.out.size
            have s3 := HC.out.size
            rcases HQ4.out with e | ⟨q', e, h3, h4⟩
            · rw [e] at hq; exact HQ.out q hq
            · rw [e] at hq; simp at hq; subst hq; omega
          case measure => simp [intOf]; omega
      · as_aux_lemma =>
        have ltN : ¬ (j : Int) < n := by omega
        have hpc : cs.getD j free = free := by rw [List.getD_eq_getElem?_getD, List.getElem?_eq_none (by rw [HL.out]; omega)]; rfl
        rw [hpc, show plainC free = free by rfl] at HTK
        unfold free at HTK
        simp only at HTK
        clear hpc hrow hc hqs
        have CAB := Lib.hid (show Ch [] wr ((wr.alloc (.cells #[.int .u8 0, .int .u8 0, .int .u64 0, .int .u64 0] 86)).alloc (.cells #[.int .u8 0, .int .u8 0, .int .u64 0, .int .u64 0] 86)) from (((Ch.refl _ _).alloc _).alloc _))
        have HR1 := Lib.hid (HROW.out.ch CAB.out (by simp))
        have HN1 : Hid (∀ i x, ([.int .u8 0, .int .u8 0, .int .u64 0, .int .u64 0] : List Value)[i]? = some x → ((wr.alloc (.cells #[.int .u8 0, .int .u8 0, .int .u64 0, .int .u64 0] 86)).alloc (.cells #[.int .u8 0, .int .u8 0, .int .u64 0, .int .u64 0] 86)).cell? ((⟨wr.heap.size + 1, 0, none⟩ : Addr).add i) = some x) := Lib.hid (newL (w := wr.alloc (.cells #[.int .u8 0, .int .u8 0, .int .u64 0, .int .u64 0] 86)) (b := wr.heap.size + 1) (by simp) [.int .u8 0, .int .u8 0, .int .u64 0, .int .u64 0] 86)
        go_wp2_with (at_builtin; go_loud (refine wpList_append_row _ rfl _ _ 23 rfl 86 i0 _ 4 24 Tryd.underlying23 hi hz0 hz1 hz2 rfl (by decide) rfl HR1.out ⟨wr.heap.size + 1, 0, none⟩ 1 1 [.int .u8 0, .int .u8 0, .int .u64 0, .int .u64 0] rfl rfl HN1.out (one4 _ _ _ _ _ _ _ _) (by unfold maxLen; omega) (by omega) ?_))
        intro v' w8 qs' hr4 hc4 hq4
        have HR4 := Lib.hid hr4
        have HC4 := Lib.hid hc4
        have HQ4 := Lib.hid hq4
        obtain ⟨ao4, cap4, rfl, _⟩ := hr4.rd
        clear hr4 hc4 hq4
        go_wp2_with fail
        go_roundw
        case rel =>
          refine ⟨j + 1, qs', by go_num, by omega, by rw [HTK.out]; exact HR4.out, (HC.out.trans' CAB.out).trans HC4.out (fun x hx => .inr (HQ.out x hx)), fun q hq => ?_⟩
          have s1 := CAB.out.size
          have s3 := HC.out.size
          rcases HQ4.out with e | ⟨q', e, h3, h4⟩
          · rw [e] at hq; exact HQ.out q hq
          · rw [e] at hq; simp at hq; subst hq; omega
        case measure => simp [intOf]; omega
    · as_aux_lemma =>
      obtain rfl : j = 16 := by omega
      clear hrow hc hqs
      go_wp2_with fail
      go_ret
      exact ⟨_, qs, rfl, HROW.out, HC.out, HQ.out⟩
end Go.Proofs.YtefamhdkfdgdjaaDoor.L15
