/-
  The law BarrierDead returns true for every view and all steps: what is not reached when a cycle begins is white still when the collector has come to its end, whatever was done; what was filled meanwhile is black. No condition; the table words.bounds is tied to the program's text.
-/
import Derived.Test.YtlhhcocdhkbdnaaDoorCards
import Derived.Test.YtlhhcocdhkbdnaaDoorTie
import Derived.Test.YtlhhcocdhkbdnaaDoorQJBounds
import Derived.Deep.DeepHandedRow
import Derived.Lib.SmallJoins
import Derived.Test.YtlhhcocdhkbdnaaDoorQOpenSteps
import Derived.Test.YtlhhcocdhkbdnaaDoorQJOpenView
import Derived.Test.YtlhhcocdhkbdnaaDoorQKeepD2
set_option linter.unusedVariables false
set_option linter.unusedSimpArgs false
set_option maxRecDepth 100000
namespace Go.Proofs.YtlhhcocdhkbdnaaDoor.barrierDead
open Go.ChangeShapes Go.WideShapes Go.ChangeAt Go.RowKit Go.Joins
theorem own : ownKnob Tryd.prog.godebug = none := by kernel_rfl
theorem contract (H : Type) (enc : TypeId × Value → H) (W : World) (base : Nat) (args : Array Value) (ds gs : List (DataW H)) (before : List MemPlace)
    (hval : ∀ (j : Nat) t v, Tryd.f9.params[j]? = some t → args[j]? = some v → Value.okWide Tryd.prog W .any base t v)
    (hW : DataW.Whole enc Tryd.prog Tryd.f9.params.toList Rows.barrierDeadSpec.vars false W args.toList ds gs before) (hsz : (DataW.weightsEach Tryd.prog (Tryd.f9.params.toList ++ (OpenSpec.ofChange Rows.barrierDeadSpec).bare.plain.varTypes Tryd.prog) (ds ++ gs)).all (· ≤ reachBytes) = true) (hL : laidMetH Tryd.prog Rows.barrierDeadRow.laid W) :
    Calls Tryd.prog 9 args W fun e W' => ∃ v, e = .returned v ∧ Rows.barrierDeadSpec.post enc Tryd.prog Tryd.f9 false true false false W args v W' := by
  have hW' := hW
  obtain ⟨p, q, hA0, hV, hbf, hfz, hnd⟩ := hW
  have hA : DataW.TrodAll enc Tryd.prog W 0 (fun _ => true) true Tryd.f9.params.toList args.toList ds p := hA0
  rw [Tryd.params9] at hA hval hsz
  have hB : Wd.Bnd W := Wd.bnd_of_laid (rest := []) hL
  have hq : gs = [] ∧ q = [] := trodVars_none hV
  obtain ⟨v0, vs0, d0, ds0, p0, q0, hargs, rfl, rfl, h0, r0⟩ := trodAll_cons hA
  obtain ⟨v1, vs1, d1, ds1, p1, q1, rfl, rfl, rfl, h1, r1⟩ := trodAll_cons r0
  obtain ⟨rfl, rfl, rfl⟩ := trodAll_nil r1
  obtain rfl : args = #[v0, v1] := by cases args; simp_all
  have hft : OV.Fits Tryd.prog 65 d0 := by
    unfold OV.Fits
    rw [List.all_eq_true]
    intro n hn
    exact List.all_eq_true.1 hsz n (DataW.weights_mem_each (j := 0) rfl rfl n hn)
  obtain ⟨zs, rfl, hzs⟩ := Go.WideShapes.okWide_struct Tryd.underlying65 (hval 0 65 _ rfl rfl)
  obtain ⟨fuel0, hf0⟩ := h0
  obtain ⟨a, v, hcs, hvm, hvg, hvc⟩ := OV.open_view hf0 hft
  obtain rfl : zs = a.arr v := by apply Array.toList_inj.1; simpa [Value.cells] using hcs
  obtain ⟨z1, len1, cap1, rfl⟩ := Go.WideShapes.okWide_slice Tryd.underlying80 (hval 1 80 _ rfl rfl)
  obtain ⟨fuel1, hf1⟩ := h1
  obtain ⟨so1, sl1, cp1, ss1, hcs1, hst1⟩ := OV.open_steps hf1
  obtain ⟨ea1, el1, ec1⟩ : z1 = so1 ∧ len1 = sl1 ∧ cap1 = cp1 := by simpa [Value.cells] using hcs1
  subst ea1 el1 ec1
  refine ((Kp.BarrierDead_any W a v hvm hvg hvc hB _ _ _ ss1 hst1).mono (fun e w' h => (show e = .returned (.bool true) ∧ Below W.heap.size W w' from ⟨h.1, h.2.below (by simp) (Nat.le_refl _)⟩))).mono fun e W1 hw => ?_
  obtain ⟨rfl, hbel⟩ := hw
  exact ⟨_, rfl, End.law_post End.laidOut hW' rfl (by kernel_rfl) Tryd.underlying4 rfl (by kernel_rfl) hbel⟩
/-- A WORLD FOR THE WITNESS: the settled one, the table of bounds holding what its initialiser lays. -/
noncomputable def laidWorld (os : Os) : World :=
  { World.holding Tryd.prog os ⟨#[], #[], []⟩ with heap := (World.holding Tryd.prog os ⟨#[], #[], []⟩).heap.modify 0 fun
      | .cells _ t frozen => .cells #[.int .i64 0, .int .i64 0, .int .i64 0, .int .i64 0, .int .i64 0, .int .i64 0, .int .i64 0, .int .i64 0, .int .i64 0, .int .i64 0, .int .i64 (-576460752303423488), .int .i64 576460752303423487, .int .i64 0, .int .i64 2147483647, .int .i64 1, .int .i64 22, .int .i64 0, .int .i64 2147483647] t frozen
      | o => o }

theorem laid_met (os : Os) : laidMet Tryd.prog Rows.barrierDeadRow.laid ((laidWorld os).forCall (fun _ _ => 0) ⟨#[], #[.agg #[.slice none 0 0, .int .u8 0, .int .i64 0, .slice none 0 0, .slice none 0 0, .int .i64 0, .slice none 0 0], .slice none 0 0], []⟩).memory :=
  laidMet_of_run' 8 (by kernel_rfl) (by kernel_rfl)
theorem reads (os : Os) {H : Type} (enc : TypeId × Value → H) : ∃ places, DataW.whole enc Tryd.prog ((laidWorld os).forCall (fun _ _ => 0) ⟨#[], #[.agg #[.slice none 0 0, .int .u8 0, .int .i64 0, .slice none 0 0, .slice none 0 0, .int .i64 0, .slice none 0 0], .slice none 0 0], []⟩).memory Tryd.f9.params.toList Rows.barrierDeadSpec.vars false (#[.agg #[.slice none 0 0, .int .u8 0, .int .i64 0, .slice none 0 0, .slice none 0 0, .int .i64 0, .slice none 0 0], .slice none 0 0] : Array Value).toList 8 = some ([.agg [.nil, .lit (.int .u8 0), .lit (.int .i64 0), .nil, .nil, .lit (.int .i64 0), .nil], .nil], [], places) :=
  ⟨[], by kernel_rfl⟩
theorem lifted (os : Os) (started : os.Started) (H : Type) (enc : TypeId × Value → H) (F : Stop.Interp) :
    ReturnsInHanded {} Tryd.checked os 9 .any ((OpenSpec.ofChange Rows.barrierDeadSpec).preRow enc Tryd.prog Tryd.f9 Rows.barrierDeadRow.domain false Rows.barrierDeadRow.laid) (((OpenSpec.ofChange Rows.barrierDeadSpec).at F).post enc Tryd.prog Tryd.f9 false true false false) := by
  obtain ⟨places, hx⟩ := reads os enc
  refine returnsInHanded_of_row (C := Tryd.checked) (s := OpenSpec.ofChange Rows.barrierDeadSpec) own started (by kernel_rfl) Tryd.func9
    (witness_row_at (enc := enc) (C := Tryd.checked) false (laidWorld os) #[.agg #[.slice none 0 0, .int .u8 0, .int .i64 0, .slice none 0 0, .slice none 0 0, .int .i64 0, .slice none 0 0], .slice none 0 0] rfl (by kernel_rfl) (by kernel_rfl) (by kernel_rfl)
      (OpenSpec.preRow_of_cond 8 hx (by kernel_rfl) (fun k hk => by cases hk) (by kernel_rfl) (laid_met os))) ?_
  intro W base args ds gs before hval hW _ hcond hsz hL _ _
  exact contract H enc W base args ds gs before hval hW hsz hL
theorem said : Rows.BarrierDeadSaid :=
  OpenClaim.holds_of_cond 9 Tryd.f9 rfl rfl rfl rfl rfl rfl rfl ⟨rfl, rfl, rfl, rfl, rfl⟩ rfl rfl rfl rfl rfl (by kernel_rfl) Tryd.func9 (by kernel_rfl)
    (of_decide_eq_true (by kernel_rfl)) (by unfold Func.isWrapper; first | (rw [if_pos (by decide +kernel)]; kernel_rfl) | (rw [if_neg (by decide +kernel)]; exact ⟨rfl, rfl⟩))
    (fun os started H enc _ F => by rw [OpenClaim.pre_eq_preRow]; exact lifted os started H enc F)
theorem plain (f : FuncId) (fn : Func) (hf : Tryd.pinned.checked.prog.funcNamed "dapple/dapplelaw13.BarrierDead" = some f) (hfn : Tryd.pinned.checked.prog.funcs[f]? = some fn) :
    false = Tryd.pinned.checked.prog.looks [] ∧ ∀ (j : Nat) t, fn.params[j]? = some t → Tryd.pinned.checked.prog.wantsStandIn t = false := by
  obtain rfl : f = 9 := Option.some.inj ((show Tryd.prog.funcNamed "dapple/dapplelaw13.BarrierDead" = some 9 by kernel_rfl).symm.trans hf) |>.symm
  obtain rfl : fn = Tryd.f9 := (Option.some.inj (Tryd.func9.symm.trans hfn)).symm
  refine ⟨by kernel_rfl, fun j t ht => ?_⟩
  rw [Tryd.params9] at ht
  have hm := Array.mem_of_getElem? ht
  simp only [List.mem_toArray, List.mem_cons, List.not_mem_nil, or_false] at hm
  rcases hm with rfl | rfl
  · exact (show Tryd.prog.wantsStandIn 65 = false by kernel_rfl)
  · exact (show Tryd.prog.wantsStandIn 80 = false by kernel_rfl)
/-- THE CARD. -/
theorem card : Rows.BarrierDeadCardSaid :=
  Claim7.holds_tied_plain_at .later [] _ _ _ _ said (fun _ h => by cases h) (by kernel_rfl) (fun _ h => by cases h) barrierDead_row_tie rfl ⟨rfl, rfl⟩ (by kernel_rfl) rfl plain (by kernel_rfl)
end Go.Proofs.YtlhhcocdhkbdnaaDoor.barrierDead
