/-
  The law MarkReach returns true for every heap, all roots, all words that are shaded later and every number: behind a Shade and Scan to the end the black cells are just those that graph reaches, at each moment nothing black names a white one, each cell becomes grey once and is scanned in that order, words and kinds stay. No condition; the table words.bounds is tied to the program's text.
-/
import Derived.Test.YtefamhdkfdgdjaaDoorCards
import Derived.Test.YtefamhdkfdgdjaaDoorTie
import Derived.Test.YtefamhdkfdgdjaaDoorQJBounds
import Derived.Deep.DeepHandedRow
import Derived.Lib.SmallJoins
import Derived.Test.YtefamhdkfdgdjaaDoorQMReachR
set_option linter.unusedVariables false
set_option linter.unusedSimpArgs false
set_option maxRecDepth 100000
namespace Go.Proofs.YtefamhdkfdgdjaaDoor.markReach
open Go.ChangeShapes Go.WideShapes Go.ChangeAt Go.RowKit Go.Joins
theorem own : ownKnob Tryd.prog.godebug = none := by kernel_rfl
theorem contract (H : Type) (enc : TypeId × Value → H) (W : World) (base : Nat) (args : Array Value) (ds gs : List (DataW H)) (before : List MemPlace)
    (hval : ∀ (j : Nat) t v, Tryd.f5.params[j]? = some t → args[j]? = some v → Value.okWide Tryd.prog W .any base t v)
    (hW : DataW.Whole enc Tryd.prog Tryd.f5.params.toList Rows.markReachSpec.vars false W args.toList ds gs before) (hsz : (DataW.weightsEach Tryd.prog (Tryd.f5.params.toList ++ (OpenSpec.ofChange Rows.markReachSpec).bare.plain.varTypes Tryd.prog) (ds ++ gs)).all (· ≤ reachBytes) = true) (hL : laidMetH Tryd.prog Rows.markReachRow.laid W) :
    Calls Tryd.prog 5 args W fun e W' => ∃ v, e = .returned v ∧ Rows.markReachSpec.post enc Tryd.prog Tryd.f5 false true false false W args v W' := by
  have hW' := hW
  obtain ⟨p, q, hA0, hV, hbf, hfz, hnd⟩ := hW
  have hA : DataW.TrodAll enc Tryd.prog W 0 (fun _ => true) true Tryd.f5.params.toList args.toList ds p := hA0
  rw [Tryd.params5] at hA hval hsz
  have hB : Wd.Bnd W := Wd.bnd_of_laid (rest := []) hL
  have hq : gs = [] ∧ q = [] := trodVars_none hV
  obtain ⟨v0, vs0, d0, ds0, p0, q0, hargs, rfl, rfl, h0, r0⟩ := trodAll_cons hA
  obtain ⟨v1, vs1, d1, ds1, p1, q1, rfl, rfl, rfl, h1, r1⟩ := trodAll_cons r0
  obtain ⟨v2, vs2, d2, ds2, p2, q2, rfl, rfl, rfl, h2, r2⟩ := trodAll_cons r1
  obtain ⟨v3, vs3, d3, ds3, p3, q3, rfl, rfl, rfl, h3, r3⟩ := trodAll_cons r2
  obtain ⟨rfl, rfl, rfl⟩ := trodAll_nil r3
  obtain rfl : args = #[v0, v1, v2, v3] := by cases args; simp_all
  obtain ⟨z0, len0, cap0, rfl⟩ := Go.WideShapes.okWide_slice Tryd.underlying23 (hval 0 23 _ rfl rfl)
  obtain ⟨fuel0, hf0⟩ := h0
  obtain ⟨ao0, cp0, r0l, hcs0, hrd0, hin0, hle0, hmx0⟩ := OV.open_cells hf0
  have hlen0 := OV.slice_len Tryd.underlying23 (by decide +kernel) hf0 (OV.fits_of hsz 0 rfl rfl) _ _ _ hcs0
  unfold reachBytes at hlen0
  obtain ⟨ea0, el0, ec0⟩ : z0 = ao0 ∧ len0 = r0l.length ∧ cap0 = cp0 := by simpa [Value.cells] using hcs0
  subst ea0 el0 ec0
  obtain ⟨z1, len1, cap1, rfl⟩ := Go.WideShapes.okWide_slice Tryd.underlying25 (hval 1 25 _ rfl rfl)
  obtain ⟨fuel1, hf1⟩ := h1
  obtain ⟨ao1, cp1, r1l, hcs1, hrd1, hin1, hle1, hmx1⟩ := OV.open_words hf1
  have hlen1 := OV.slice_len Tryd.underlying25 (by decide +kernel) hf1 (OV.fits_of hsz 1 rfl rfl) _ _ _ hcs1
  unfold reachBytes at hlen1
  obtain ⟨ea1, el1, ec1⟩ : z1 = ao1 ∧ len1 = r1l.length ∧ cap1 = cp1 := by simpa [Value.cells] using hcs1
  subst ea1 el1 ec1
  obtain ⟨z2, len2, cap2, rfl⟩ := Go.WideShapes.okWide_slice Tryd.underlying25 (hval 2 25 _ rfl rfl)
  obtain ⟨fuel2, hf2⟩ := h2
  obtain ⟨ao2, cp2, r2l, hcs2, hrd2, hin2, hle2, hmx2⟩ := OV.open_words hf2
  have hlen2 := OV.slice_len Tryd.underlying25 (by decide +kernel) hf2 (OV.fits_of hsz 2 rfl rfl) _ _ _ hcs2
  unfold reachBytes at hlen2
  obtain ⟨ea2, el2, ec2⟩ : z2 = ao2 ∧ len2 = r2l.length ∧ cap2 = cp2 := by simpa [Value.cells] using hcs2
  subst ea2 el2 ec2
  obtain ⟨x3, rfl, rfl, hp3, wx3⟩ := open_int Tryd.underlying3 (hval 3 3 _ rfl rfl) h3
  have b3 := bounds_i64 wx3
  refine ((L15.MarkReach_row W _ _ _ _ _ _ r0l r1l r2l x3 hrd0 hrd1 hrd2 hin0 hin1 hin2 (by omega) hB hlen0 hlen1 hlen2).mono (fun e w' h => (show e = .returned (.bool true) ∧ Below W.heap.size W w' from ⟨h.1, h.2.below (by simp) (Nat.le_refl _)⟩))).mono fun e W1 hw => ?_
  obtain ⟨rfl, hbel⟩ := hw
  exact ⟨_, rfl, End.law_post End.laidOut hW' rfl (by kernel_rfl) Tryd.underlying4 rfl (by kernel_rfl) hbel⟩
/-- A WORLD FOR THE WITNESS: the settled one, the table of bounds holding what its initialiser lays. -/
noncomputable def laidWorld (os : Os) : World :=
  { World.holding Tryd.prog os ⟨#[], #[], []⟩ with heap := (World.holding Tryd.prog os ⟨#[], #[], []⟩).heap.modify 0 fun
      | .cells _ t frozen => .cells #[.int .i64 0, .int .i64 0, .int .i64 0, .int .i64 0, .int .i64 0, .int .i64 0, .int .i64 0, .int .i64 0, .int .i64 0, .int .i64 0, .int .i64 (-576460752303423488), .int .i64 576460752303423487, .int .i64 0, .int .i64 2147483647, .int .i64 1, .int .i64 22, .int .i64 0, .int .i64 2147483647] t frozen
      | o => o }

theorem laid_met (os : Os) : laidMet Tryd.prog Rows.markReachRow.laid ((laidWorld os).forCall (fun _ _ => 0) ⟨#[], #[.slice none 0 0, .slice none 0 0, .slice none 0 0, .int .i64 0], []⟩).memory :=
  laidMet_of_run' 8 (by kernel_rfl) (by kernel_rfl)
theorem reads (os : Os) {H : Type} (enc : TypeId × Value → H) : ∃ places, DataW.whole enc Tryd.prog ((laidWorld os).forCall (fun _ _ => 0) ⟨#[], #[.slice none 0 0, .slice none 0 0, .slice none 0 0, .int .i64 0], []⟩).memory Tryd.f5.params.toList Rows.markReachSpec.vars false (#[.slice none 0 0, .slice none 0 0, .slice none 0 0, .int .i64 0] : Array Value).toList 8 = some ([.nil, .nil, .nil, .lit (.int .i64 0)], [], places) :=
  ⟨[], by kernel_rfl⟩
theorem lifted (os : Os) (started : os.Started) (H : Type) (enc : TypeId × Value → H) (F : Stop.Interp) :
    ReturnsInHanded {} Tryd.checked os 5 .any ((OpenSpec.ofChange Rows.markReachSpec).preRow enc Tryd.prog Tryd.f5 Rows.markReachRow.domain false Rows.markReachRow.laid) (((OpenSpec.ofChange Rows.markReachSpec).at F).post enc Tryd.prog Tryd.f5 false true false false) := by
  obtain ⟨places, hx⟩ := reads os enc
  refine returnsInHanded_of_row (C := Tryd.checked) (s := OpenSpec.ofChange Rows.markReachSpec) own started (by kernel_rfl) Tryd.func5
    (witness_row_at (enc := enc) (C := Tryd.checked) false (laidWorld os) #[.slice none 0 0, .slice none 0 0, .slice none 0 0, .int .i64 0] rfl (by kernel_rfl) (by kernel_rfl) (by kernel_rfl)
      (OpenSpec.preRow_of_cond 8 hx (by kernel_rfl) (fun k hk => by cases hk) (by kernel_rfl) (laid_met os))) ?_
  intro W base args ds gs before hval hW _ hcond hsz hL _ _
  exact contract H enc W base args ds gs before hval hW hsz hL
theorem said : Rows.MarkReachSaid :=
  OpenClaim.holds_of_cond 5 Tryd.f5 rfl rfl rfl rfl rfl rfl rfl ⟨rfl, rfl, rfl, rfl, rfl⟩ rfl rfl rfl rfl rfl (by kernel_rfl) Tryd.func5 (by kernel_rfl)
    (of_decide_eq_true (by kernel_rfl)) (by unfold Func.isWrapper; first | (rw [if_pos (by decide +kernel)]; kernel_rfl) | (rw [if_neg (by decide +kernel)]; exact ⟨rfl, rfl⟩))
    (fun os started H enc _ F => by rw [OpenClaim.pre_eq_preRow]; exact lifted os started H enc F)
theorem plain (f : FuncId) (fn : Func) (hf : Tryd.pinned.checked.prog.funcNamed "dapple/dapplelaw15.MarkReach" = some f) (hfn : Tryd.pinned.checked.prog.funcs[f]? = some fn) :
    false = Tryd.pinned.checked.prog.looks [] ∧ ∀ (j : Nat) t, fn.params[j]? = some t → Tryd.pinned.checked.prog.wantsStandIn t = false := by
  obtain rfl : f = 5 := Option.some.inj ((show Tryd.prog.funcNamed "dapple/dapplelaw15.MarkReach" = some 5 by kernel_rfl).symm.trans hf) |>.symm
  obtain rfl : fn = Tryd.f5 := (Option.some.inj (Tryd.func5.symm.trans hfn)).symm
  refine ⟨by kernel_rfl, fun j t ht => ?_⟩
  rw [Tryd.params5] at ht
  have hm := Array.mem_of_getElem? ht
  simp only [List.mem_toArray, List.mem_cons, List.not_mem_nil, or_false] at hm
  rcases hm with rfl | rfl | rfl | rfl
  · exact (show Tryd.prog.wantsStandIn 23 = false by kernel_rfl)
  · exact (show Tryd.prog.wantsStandIn 25 = false by kernel_rfl)
  · exact (show Tryd.prog.wantsStandIn 25 = false by kernel_rfl)
  · exact (show Tryd.prog.wantsStandIn 3 = false by kernel_rfl)
/-- THE CARD. -/
theorem card : Rows.MarkReachCardSaid :=
  Claim7.holds_tied_plain_at .later [] _ _ _ _ said (fun _ h => by cases h) (by kernel_rfl) (fun _ h => by cases h) markReach_row_tie rfl ⟨rfl, rfl⟩ (by kernel_rfl) rfl plain (by kernel_rfl)
end Go.Proofs.YtefamhdkfdgdjaaDoor.markReach
