/-
  The law SweepDoes returns true for every slice of cells and every script: every step of two sweepers of one heap, which others change meanwhile, is the document's, and so is the heap behind it. No condition.
-/
import Derived.Test.YtkcplmablelmbaaRows
import Derived.Test.YtkcplmablelmbaaEnd
import Derived.SizedLaws
import Derived.Lib.SmallJoins
import Derived.Test.YtkcplmablelmbaaSweepDoes3
import Derived.Test.YtkcplmablelmbaaOpenOps
set_option linter.unusedVariables false
set_option linter.unusedSimpArgs false
set_option maxRecDepth 100000
namespace Go.Proofs.Ytkcplmablelmbaa.sweepDoes
open Go.ChangeShapes Go.WideShapes Go.ChangeAt Go.RowKit Go.Joins
theorem own : ownKnob Try.prog.godebug = none := by kernel_rfl
theorem contract (H : Type) (enc : TypeId × Value → H) (W : World) (base : Nat) (args : Array Value) (ds gs : List (DataW H)) (before : List MemPlace)
    (hval : ∀ (j : Nat) t v, Try.f6.params[j]? = some t → args[j]? = some v → Value.okWide Try.prog W .any base t v)
    (hW : DataW.Whole enc Try.prog Try.f6.params.toList Rows.sweepDoesSpec.vars false W args.toList ds gs before) (hsz : (DataW.weightsEach Try.prog (Try.f6.params.toList ++ Rows.sweepDoesSpec.plain.varTypes Try.prog) (ds ++ gs)).all (· ≤ reachBytes) = true) :
    Calls Try.prog 6 args W fun e W' => ∃ v, e = .returned v ∧ Rows.sweepDoesSpec.post enc Try.prog Try.f6 false true false false W args v W' := by
  have hW' := hW
  obtain ⟨p, q, hA0, hV, hbf, hfz, hnd⟩ := hW
  have hA : DataW.TrodAll enc Try.prog W 0 (fun _ => true) true Try.f6.params.toList args.toList ds p := hA0
  rw [Try.params6] at hA hval
  obtain ⟨rfl, hq0⟩ := trodVars_none hV
  have hsz' : (DataW.weightsEach Try.prog [23, 50] ds).all (· ≤ reachBytes) = true := by
    have h := hsz
    rw [List.append_nil] at h
    exact h
  clear hsz
  obtain ⟨v0, vs0, d0, ds0, p0, q0, hargs, rfl, rfl, h0, r0⟩ := trodAll_cons hA
  obtain ⟨v1, vs1, d1, ds1, p1, q1, rfl, rfl, rfl, h1, r1⟩ := trodAll_cons r0
  obtain ⟨rfl, rfl, rfl⟩ := trodAll_nil r1
  obtain rfl : args = #[v0, v1] := by cases args; simp_all
  obtain ⟨z0, len0, cap0, rfl⟩ := Go.WideShapes.okWide_slice Try.underlying23 (hval 0 23 _ rfl rfl)
  obtain ⟨fuel0, hf0⟩ := h0
  obtain ⟨ao0, cp0, r0l, hcs0, hrd0, hin0, hle0, hmx0, hnil0⟩ := OC.open_cells hf0
  obtain ⟨ea0, el0, ec0⟩ : z0 = ao0 ∧ len0 = r0l.length ∧ cap0 = cp0 := by simpa [Value.cells] using hcs0
  subst ea0 el0 ec0
  obtain ⟨z1, len1, cap1, rfl⟩ := Go.WideShapes.okWide_slice Try.underlying50 (hval 1 50 _ rfl rfl)
  obtain ⟨fuel1, hf1⟩ := h1
  obtain ⟨ao1, m1, cp1, bs1, hcs1, hb1, hbi1⟩ := OC.open_ops hf1
  obtain ⟨ea1, el1, ec1⟩ : z1 = ao1 ∧ len1 = m1 ∧ cap1 = cp1 := by simpa [Value.cells] using hcs1
  subst ea1 el1 ec1
  refine ((Sw.SweepDoes_any W _ _ r0l hrd0 hin0 _ _ _ bs1 hb1.2 hbi1).mono (fun e w' h => (show e = .returned (.bool true) ∧ Below W.heap.size W w' from ⟨h.1, h.2.below (by simp) (Nat.le_refl _)⟩))).mono fun e W1 hw => ?_
  obtain ⟨rfl, hbel⟩ := hw
  exact ⟨_, rfl, End.law_post End.laidOut hW' rfl (by kernel_rfl) Try.underlying4 rfl (by kernel_rfl) hbel⟩
theorem lifted (os : Os) (started : os.Started) (H : Type) (enc : TypeId × Value → H) :
    ReturnsInHanded {} Try.checked os 6 .any (Rows.sweepDoesSpec.pre6 enc Try.prog Try.f6 Rows.sweepDoesRow.domain false) (Rows.sweepDoesSpec.post enc Try.prog Try.f6 false true false false) := by
  refine returnsInHanded_of_change_sized (C := Try.checked) own started (by kernel_rfl) Try.func6
    (ChangeSpec.witness6 (enc := enc) (C := Try.checked) false ⟨#[], #[.slice none 0 0, .slice none 0 0], []⟩ 8 (by kernel_rfl) (by kernel_rfl) (by kernel_rfl) (by kernel_rfl)) ?_
  intro W base args ds gs before hval hW _ hsz _
  exact contract H enc W base args ds gs before hval hW hsz
/-- THE STATEMENT. -/
theorem proved : Rows.SweepDoesSaid :=
  OpenClaim.holds_of_wide 6 Try.f6 rfl rfl rfl rfl rfl rfl rfl ⟨rfl, rfl, rfl, rfl, rfl⟩ rfl rfl rfl rfl rfl (by kernel_rfl) Try.func6 (by kernel_rfl)
    (of_decide_eq_true (by kernel_rfl)) (by unfold Func.isWrapper; first | (rw [if_pos (by decide +kernel)]; kernel_rfl) | (rw [if_neg (by decide +kernel)]; exact ⟨rfl, rfl⟩))
    (fun os started H enc _ => lifted os started H enc)
end Go.Proofs.Ytkcplmablelmbaa.sweepDoes
