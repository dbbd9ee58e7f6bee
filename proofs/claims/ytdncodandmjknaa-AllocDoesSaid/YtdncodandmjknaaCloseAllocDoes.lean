/-
  The law AllocDoes returns true for every two sizes and every script: New and every call, in every order, of two allocators in turns, answer as the document's do; lists that come out are their owner's. No condition.
-/
import Derived.Test.YtdncodandmjknaaRows
import Derived.Test.YtdncodandmjknaaEnd
import Derived.SizedLaws
import Derived.Lib.SmallJoins
import Derived.Test.YtdncodandmjknaaOpenOp12
import Derived.Test.YtdncodandmjknaaLaw12e
set_option linter.unusedVariables false
set_option linter.unusedSimpArgs false
set_option maxRecDepth 100000
namespace Go.Proofs.Ytdncodandmjknaa.allocDoes
open Go.ChangeShapes Go.WideShapes Go.ChangeAt Go.RowKit Go.Joins
theorem own : ownKnob Try.prog.godebug = none := by kernel_rfl
theorem contract (H : Type) (enc : TypeId × Value → H) (W : World) (base : Nat) (args : Array Value) (ds gs : List (DataW H)) (before : List MemPlace)
    (hval : ∀ (j : Nat) t v, Try.f4.params[j]? = some t → args[j]? = some v → Value.okWide Try.prog W .any base t v)
    (hW : DataW.Whole enc Try.prog Try.f4.params.toList Rows.allocDoesSpec.vars false W args.toList ds gs before) (hsz : (DataW.weightsEach Try.prog (Try.f4.params.toList ++ Rows.allocDoesSpec.plain.varTypes Try.prog) (ds ++ gs)).all (· ≤ reachBytes) = true) :
    Calls Try.prog 4 args W fun e W' => ∃ v, e = .returned v ∧ Rows.allocDoesSpec.post enc Try.prog Try.f4 false true false false W args v W' := by
  have hW' := hW
  obtain ⟨p, q, hA0, hV, hbf, hfz, hnd⟩ := hW
  have hA : DataW.TrodAll enc Try.prog W 0 (fun _ => true) true Try.f4.params.toList args.toList ds p := hA0
  rw [Try.params4] at hA hval
  obtain ⟨rfl, hq0⟩ := trodVars_none hV
  have hsz' : (DataW.weightsEach Try.prog [3, 3, 23] ds).all (· ≤ reachBytes) = true := by
    have h := hsz
    rw [List.append_nil] at h
    exact h
  clear hsz
  obtain ⟨v0, vs0, d0, ds0, p0, q0, hargs, rfl, rfl, h0, r0⟩ := trodAll_cons hA
  obtain ⟨v1, vs1, d1, ds1, p1, q1, rfl, rfl, rfl, h1, r1⟩ := trodAll_cons r0
  obtain ⟨v2, vs2, d2, ds2, p2, q2, rfl, rfl, rfl, h2, r2⟩ := trodAll_cons r1
  obtain ⟨rfl, rfl, rfl⟩ := trodAll_nil r2
  obtain rfl : args = #[v0, v1, v2] := by cases args; simp_all
  obtain ⟨x0, rfl, rfl, hp0, wx0⟩ := open_int Try.underlying3 (hval 0 3 _ rfl rfl) h0
  have b0 := bounds_i64 wx0
  obtain ⟨x1, rfl, rfl, hp1, wx1⟩ := open_int Try.underlying3 (hval 1 3 _ rfl rfl) h1
  have b1 := bounds_i64 wx1
  obtain ⟨z2, len2, cap2, rfl⟩ := Go.WideShapes.okWide_slice Try.underlying23 (hval 2 23 _ rfl rfl)
  obtain ⟨fuel2, hf2⟩ := h2
  obtain ⟨ao2, m2, cp2, bs2, hcs2, hb2, hbi2⟩ := OC.open_ops hf2
  obtain ⟨ea2, el2, ec2⟩ : z2 = ao2 ∧ len2 = m2 ∧ cap2 = cp2 := by simpa [Value.cells] using hcs2
  subst ea2 el2 ec2
  refine ((D12.AllocDoes_any W x0 x1 _ _ _ bs2 hb2.2 hbi2).mono (fun e w' h => (show e = .returned (.bool true) ∧ Below W.heap.size W w' from ⟨h.1, h.2.below (by simp) (Nat.le_refl _)⟩))).mono fun e W1 hw => ?_
  obtain ⟨rfl, hbel⟩ := hw
  exact ⟨_, rfl, End.law_post End.laidOut hW' rfl (by kernel_rfl) Try.underlying4 rfl (by kernel_rfl) hbel⟩
theorem lifted (os : Os) (started : os.Started) (H : Type) (enc : TypeId × Value → H) :
    ReturnsInHanded {} Try.checked os 4 .any (Rows.allocDoesSpec.pre6 enc Try.prog Try.f4 Rows.allocDoesRow.domain false) (Rows.allocDoesSpec.post enc Try.prog Try.f4 false true false false) := by
  refine returnsInHanded_of_change_sized (C := Try.checked) own started (by kernel_rfl) Try.func4
    (ChangeSpec.witness6 (enc := enc) (C := Try.checked) false ⟨#[], #[.int .i64 0, .int .i64 0, .slice none 0 0], []⟩ 8 (by kernel_rfl) (by kernel_rfl) (by kernel_rfl) (by kernel_rfl)) ?_
  intro W base args ds gs before hval hW _ hsz _
  exact contract H enc W base args ds gs before hval hW hsz
/-- THE STATEMENT. -/
theorem proved : Rows.AllocDoesSaid :=
  OpenClaim.holds_of_wide 4 Try.f4 rfl rfl rfl rfl rfl rfl rfl ⟨rfl, rfl, rfl, rfl, rfl⟩ rfl rfl rfl rfl rfl (by kernel_rfl) Try.func4 (by kernel_rfl)
    (of_decide_eq_true (by kernel_rfl)) (by unfold Func.isWrapper; first | (rw [if_pos (by decide +kernel)]; kernel_rfl) | (rw [if_neg (by decide +kernel)]; exact ⟨rfl, rfl⟩))
    (fun os started H enc _ => lifted os started H enc)
end Go.Proofs.Ytdncodandmjknaa.allocDoes
