/-
  The law AllocKeeps returns true for every size and every script: no cell is two threads', who waits longest is served first, while somebody waits none is free, and free, out and given are all that there are. No condition.
-/
import Derived.Test.YtdncodandmjknaaRows
import Derived.Test.YtdncodandmjknaaEnd
import Derived.SizedLaws
import Derived.Lib.SmallJoins
import Derived.Test.YtdncodandmjknaaOpenOp12
set_option linter.unusedVariables false
set_option linter.unusedSimpArgs false
set_option maxRecDepth 100000
namespace Go.Proofs.Ytdncodandmjknaa.allocKeeps
open Go.ChangeShapes Go.WideShapes Go.ChangeAt Go.RowKit Go.Joins
theorem own : ownKnob Try.prog.godebug = none := by kernel_rfl
theorem contract (H : Type) (enc : TypeId × Value → H) (W : World) (base : Nat) (args : Array Value) (ds gs : List (DataW H)) (before : List MemPlace)
    (hval : ∀ (j : Nat) t v, Try.f5.params[j]? = some t → args[j]? = some v → Value.okWide Try.prog W .any base t v)
    (hW : DataW.Whole enc Try.prog Try.f5.params.toList Rows.allocKeepsSpec.vars false W args.toList ds gs before) (hsz : (DataW.weightsEach Try.prog (Try.f5.params.toList ++ Rows.allocKeepsSpec.plain.varTypes Try.prog) (ds ++ gs)).all (· ≤ reachBytes) = true) :
    Calls Try.prog 5 args W fun e W' => ∃ v, e = .returned v ∧ Rows.allocKeepsSpec.post enc Try.prog Try.f5 false true false false W args v W' := by
  have hW' := hW
  obtain ⟨p, q, hA0, hV, hbf, hfz, hnd⟩ := hW
  have hA : DataW.TrodAll enc Try.prog W 0 (fun _ => true) true Try.f5.params.toList args.toList ds p := hA0
  rw [Try.params5] at hA hval
  obtain ⟨rfl, hq0⟩ := trodVars_none hV
  have hsz' : (DataW.weightsEach Try.prog [3, 23] ds).all (· ≤ reachBytes) = true := by
    have h := hsz
    rw [List.append_nil] at h
    exact h
  clear hsz
  obtain ⟨v0, vs0, d0, ds0, p0, q0, hargs, rfl, rfl, h0, r0⟩ := trodAll_cons hA
  obtain ⟨v1, vs1, d1, ds1, p1, q1, rfl, rfl, rfl, h1, r1⟩ := trodAll_cons r0
  obtain ⟨rfl, rfl, rfl⟩ := trodAll_nil r1
  obtain rfl : args = #[v0, v1] := by cases args; simp_all
  obtain ⟨x0, rfl, rfl, hp0, wx0⟩ := open_int Try.underlying3 (hval 0 3 _ rfl rfl) h0
  have b0 := bounds_i64 wx0
  obtain ⟨z1, len1, cap1, rfl⟩ := Go.WideShapes.okWide_slice Try.underlying23 (hval 1 23 _ rfl rfl)
  obtain ⟨fuel1, hf1⟩ := h1
  obtain ⟨ao1, m1, cp1, bs1, hcs1, hb1, hbi1⟩ := OC.open_ops hf1
  obtain ⟨ea1, el1, ec1⟩ : z1 = ao1 ∧ len1 = m1 ∧ cap1 = cp1 := by simpa [Value.cells] using hcs1
  subst ea1 el1 ec1
  refine ((Kp.AllocKeeps_any W x0 (by unfold Kp.I64; omega) _ _ _ bs1 hb1.2 hbi1).mono (fun e w' h => (show e = .returned (.bool true) ∧ Below W.heap.size W w' from ⟨h.1, h.2.below (by simp) (Nat.le_refl _)⟩))).mono fun e W1 hw => ?_
  obtain ⟨rfl, hbel⟩ := hw
  exact ⟨_, rfl, End.law_post End.laidOut hW' rfl (by kernel_rfl) Try.underlying4 rfl (by kernel_rfl) hbel⟩
theorem lifted (os : Os) (started : os.Started) (H : Type) (enc : TypeId × Value → H) :
    ReturnsInHanded {} Try.checked os 5 .any (Rows.allocKeepsSpec.pre6 enc Try.prog Try.f5 Rows.allocKeepsRow.domain false) (Rows.allocKeepsSpec.post enc Try.prog Try.f5 false true false false) := by
  refine returnsInHanded_of_change_sized (C := Try.checked) own started (by kernel_rfl) Try.func5
    (ChangeSpec.witness6 (enc := enc) (C := Try.checked) false ⟨#[], #[.int .i64 0, .slice none 0 0], []⟩ 8 (by kernel_rfl) (by kernel_rfl) (by kernel_rfl) (by kernel_rfl)) ?_
  intro W base args ds gs before hval hW _ hsz _
  exact contract H enc W base args ds gs before hval hW hsz
/-- THE STATEMENT. -/
theorem proved : Rows.AllocKeepsSaid :=
  OpenClaim.holds_of_wide 5 Try.f5 rfl rfl rfl rfl rfl rfl rfl ⟨rfl, rfl, rfl, rfl, rfl⟩ rfl rfl rfl rfl rfl (by kernel_rfl) Try.func5 (by kernel_rfl)
    (of_decide_eq_true (by kernel_rfl)) (by unfold Func.isWrapper; first | (rw [if_pos (by decide +kernel)]; kernel_rfl) | (rw [if_neg (by decide +kernel)]; exact ⟨rfl, rfl⟩))
    (fun os started H enc _ => lifted os started H enc)
end Go.Proofs.Ytdncodandmjknaa.allocKeeps
