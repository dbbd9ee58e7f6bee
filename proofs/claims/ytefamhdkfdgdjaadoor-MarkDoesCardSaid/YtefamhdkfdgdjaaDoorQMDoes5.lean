/-
  THE WALK of MarkDoes' steps: all cells, others; every step.
-/
import Derived.Test.YtefamhdkfdgdjaaDoorQMDoes1
import Derived.Test.YtefamhdkfdgdjaaDoorQMDoes2
import Derived.Test.YtefamhdkfdgdjaaDoorQMDoes3
import Derived.Test.YtefamhdkfdgdjaaDoorQMDoes4
import Derived.Test.YtefamhdkfdgdjaaDoorQJLentW
import Derived.Deep.RegionHeld3
import Derived.StillTailTactics
set_option linter.unusedVariables false
set_option linter.unusedSimpArgs false
set_option maxRecDepth 100000
namespace Go.Proofs.YtefamhdkfdgdjaaDoor.L15
open Go.RowKit Go.Proofs.YtefamhdkfdgdjaaDoor.Wd Go.Proofs.YtefamhdkfdgdjaaDoor.Hp Go.Proofs.YtefamhdkfdgdjaaDoor.Cp Go.Proofs.YtefamhdkfdgdjaaDoor.Cl Go.Proofs.YtefamhdkfdgdjaaDoor.Mk Go.Proofs.YtefamhdkfdgdjaaDoor.R03 Go.Proofs.YtefamhdkfdgdjaaDoor.R15 Go.Proofs.YtefamhdkfdgdjaaDoor.Sm Go.Proofs.YtefamhdkfdgdjaaDoor.Own Go.Proofs.YtefamhdkfdgdjaaDoor.Gr Go.Proofs.YtefamhdkfdgdjaaDoor.Mr
set_option maxHeartbeats 8000000 in
theorem step8 {w0 w : World} {O : Nat → Nat} {bp ni mp p s : Nat} {F rq : List Nat} {l : List Cel} {row : List Int} {qp rp rb : Nat} {rq2 : List Nat} (h : DS w0 w O bp ni mp p s F rq l row qp rp rb rq2 l row)
    {aw ac : Option Addr} {nw cw nc cc : Nat} {ws cs : List Int} {ce cC cD ow : Int} (ho : OpI w0 aw nw cw ws ac nc cc cs cC cD ow) (hb0 : Bnd w0) (hrl : row.length ≤ 100000) (hni : ni ≤ 500000) :
    Calls Tryd.prog 9 #[.pointer (some ⟨mp, 0, none⟩), .pointer (some ⟨p, 0, none⟩), .pointer (some ⟨qp, 0, none⟩), .agg (opA 8 aw nw cw ac nc cc ce cC cD ow), .pointer (some ⟨bp, 0, none⟩)] w fun e w' => e = .returned (.bool true) ∧ SP w0 bp ni mp p s qp rp rb row (1 + nw + nc) w' := by
  obtain ⟨W, hW⟩ : ∃ W, W = w.alloc (.cells (opA 8 aw nw cw ac nc cc ce cC cD ow) 31) := ⟨_, rfl⟩
  have hal : Ch [] w W := by rw [hW]; exact (Ch.refl _ _).alloc _
  have D1 := Lib.hid (h.chs hal)
  have hln := D1.out.rk.rh.le
  have SNP := Lib.hid (fun V (hV : Ch [] W V) => Cl.Snapshot_any V p s F l (D1.out.chs hV).mm.is)
  have SC : Hid (∀ V b, V.heap[b]? = some (.cells (Cl.flat l).toArray 86 (0, 0)) → Ch [] W V → Calls Tryd.prog 43 #[.slice (some ⟨b, 0, none⟩) l.length l.length, .slice (some ⟨rb, 0, none⟩) l.length l.length] V fun e w' => e = .returned (.bool true) ∧ ∃ d, w' = V.drewN d) := Lib.hid (fun V b hb hV => by
    have hrd : ∀ x, V.heap[x]? = some (.cells (Cl.flat l).toArray 86 (0, 0)) → Hp.Rd V (some ⟨x, 0, none⟩) (l.length * 4) (Gp.flat (l.map conv)) := fun x hx => by
      rw [conv_flat]
      exact ⟨Cl.flat_length l, .inr ⟨x, 0, rfl, fun j hj => by rw [cell_at hx, List.getElem?_toArray]; congr 1; omega⟩⟩
    have := SameCells_any V (some ⟨b, 0, none⟩) (some ⟨rb, 0, none⟩) l.length l.length l.length l.length (l.map conv) (l.map conv) (by omega) (by omega) (by simp) (by simp) (hrd b hb) (hrd rb (D1.out.chs hV).rk.rh.bd)
    rw [decide_eq_true rfl] at this
    exact this)
  obtain ⟨vg, g1, _⟩ := D1.out.rk.hm
  have HKS : Hid (∀ V, Ch [] W V → V.cell? ⟨qp, 0, none⟩ = some (.pointer (some ⟨rp, 0, none⟩)) ∧ V.cell? ⟨rp, 0, none⟩ = some (.slice (some ⟨rb, 0, none⟩) l.length l.length)) := Lib.hid (fun V hV => by
    obtain ⟨v2, k1, _⟩ := (D1.out.chs hV).rk.hm
    exact ⟨cell_at k1, cell_at (D1.out.chs hV).rk.rh.hd⟩)
  unfold opA
  unfold opA at hW
  have kk := HKS.out W (Ch.refl _ _)
  obtain ⟨kk1, kk2⟩ := kk
  clear h ho hal g1
  generalize l.length = ln at *
  go_enter Tryd.func9, Tryd.ntmps9
  go_wp2_with fail
  rw [← hW]
  clear hW
  go_region_held3 (fun w' => w'.cell? ⟨qp, 0, none⟩ = some (.pointer (some ⟨rp, 0, none⟩)) ∧ w'.cell? ⟨rp, 0, none⟩ = some (.slice (some ⟨rb, 0, none⟩) ln ln)) (first | exact HK9.out | (refine HKS.out _ ?_ <;> repeat (first | exact HC9.out | exact Ch.refl _ _ | apply Ch.drew))) (first | (go_at_call 44; refine (SNP.out _ (by repeat (first | exact Ch.refl _ _ | apply Ch.drew))).mono ?_; rintro e w9 ⟨rfl, g1, g2⟩; have HC9 : Hid (Ch [] W w9) := Lib.hid (Ch.trans' (by repeat (first | exact Ch.refl _ _ | apply Ch.drew)) g2); have HG1 := Lib.hid g1; have HK9 := Lib.hid (HKS.out w9 HC9.out); clear g1 g2) | (go_at_call 43; refine (SC.out _ _ HG1.out (by repeat (first | exact HC9.out | apply Ch.drew))).mono ?_; rintro e w10 ⟨rfl, d10, rfl⟩))
  all_goals
    go_wp2_with fail
    go_ret
    exact ⟨rfl, O, ni, F, rq, _, _, rq2, D1.out.chs (HC9.out.drewN d10), by omega, by omega⟩
set_option maxHeartbeats 8000000 in
theorem step0 {kd : Int} (hk : kd ≠ 1 ∧ kd ≠ 2 ∧ kd ≠ 3 ∧ kd ≠ 4 ∧ kd ≠ 5 ∧ kd ≠ 6 ∧ kd ≠ 7 ∧ kd ≠ 8) {w0 w : World} {O : Nat → Nat} {bp ni mp p s : Nat} {F rq : List Nat} {l : List Cel} {row : List Int} {qp rp rb : Nat} {rq2 : List Nat} (h : DS w0 w O bp ni mp p s F rq l row qp rp rb rq2 l row)
    {aw ac : Option Addr} {nw cw nc cc : Nat} {ws cs : List Int} {ce cC cD ow : Int} (ho : OpI w0 aw nw cw ws ac nc cc cs cC cD ow) (hb0 : Bnd w0) (hrl : row.length ≤ 100000) (hni : ni ≤ 500000) :
    Calls Tryd.prog 9 #[.pointer (some ⟨mp, 0, none⟩), .pointer (some ⟨p, 0, none⟩), .pointer (some ⟨qp, 0, none⟩), .agg (opA kd aw nw cw ac nc cc ce cC cD ow), .pointer (some ⟨bp, 0, none⟩)] w fun e w' => e = .returned (.bool true) ∧ SP w0 bp ni mp p s qp rp rb row (1 + nw + nc) w' := by
  obtain ⟨W, hW⟩ : ∃ W, W = w.alloc (.cells (opA kd aw nw cw ac nc cc ce cC cD ow) 31) := ⟨_, rfl⟩
  have hal : Ch [] w W := by rw [hW]; exact (Ch.refl _ _).alloc _
  have D1 := Lib.hid (h.chs hal)
  obtain ⟨h1, h2, h3, h4, h5, h6, h7, h8⟩ := hk
  have e1 : (kd == 1) = false := by simpa using h1
  have e2 : (kd == 2) = false := by simpa using h2
  have e3 : (kd == 3) = false := by simpa using h3
  have e4 : (kd == 4) = false := by simpa using h4
  have e5 : (kd == 5) = false := by simpa using h5
  have e6 : (kd == 6) = false := by simpa using h6
  have e7 : (kd == 7) = false := by simpa using h7
  have e8 : (kd == 8) = false := by simpa using h8
  unfold opA
  unfold opA at hW
  clear h ho hal h1 h2 h3 h4 h5 h6 h7 h8
  go_enter Tryd.func9, Tryd.ntmps9
  go_wp2_with fail
  rw [← hW]
  clear hW
  go_ret
  exact ⟨rfl, O, ni, F, rq, _, _, rq2, D1.out, by omega, by omega⟩
/-- EVERY STEP. -/
theorem step_any {kd : Int} {w0 w : World} {O : Nat → Nat} {bp ni mp p s : Nat} {F rq : List Nat} {l : List Cel} {row : List Int} {qp rp rb : Nat} {rq2 : List Nat} (h : DS w0 w O bp ni mp p s F rq l row qp rp rb rq2 l row)
    {aw ac : Option Addr} {nw cw nc cc : Nat} {ws cs : List Int} {ce cC cD ow : Int} (ho : OpI w0 aw nw cw ws ac nc cc cs cC cD ow) (hb0 : Bnd w0) (hrl : row.length ≤ 100000) (hni : ni ≤ 500000) :
    Calls Tryd.prog 9 #[.pointer (some ⟨mp, 0, none⟩), .pointer (some ⟨p, 0, none⟩), .pointer (some ⟨qp, 0, none⟩), .agg (opA kd aw nw cw ac nc cc ce cC cD ow), .pointer (some ⟨bp, 0, none⟩)] w fun e w' => e = .returned (.bool true) ∧ SP w0 bp ni mp p s qp rp rb row (1 + nw + nc) w' := by
  by_cases h1 : kd = 1
  · subst h1; exact step1 h ho hb0 hrl hni
  by_cases h2 : kd = 2
  · subst h2; exact step2 h ho hb0 hrl hni
  by_cases h3 : kd = 3
  · subst h3
    cases row with
    | nil => exact step3_nil h ho hb0 hni
    | cons c row => exact step3_one h ho hb0 (by simp at hrl; omega) hni
  by_cases h4 : kd = 4
  · subst h4; exact step4 h ho hb0 hrl hni
  by_cases h5 : kd = 5
  · subst h5; exact step5 h ho hb0 hrl hni
  by_cases h6 : kd = 6
  · subst h6; exact step6 h ho hb0 hrl hni
  by_cases h7 : kd = 7
  · subst h7; exact step7 h ho hb0 hrl hni
  by_cases h8 : kd = 8
  · subst h8; exact step8 h ho hb0 hrl hni
  exact step0 ⟨h1, h2, h3, h4, h5, h6, h7, h8⟩ h ho hb0 hrl hni
end Go.Proofs.YtefamhdkfdgdjaaDoor.L15
