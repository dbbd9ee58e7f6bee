/-
  The law GraphForms returns true for every heap, all roots, every order and every number: the Form of a Form is that again, a heap numbered otherwise, of other colours, has the same Form, and with another word in a cell that is reached it has another one. No condition; the table words.bounds is tied to the program's text.
-/
import Derived.Test.YtggijcebobjghaaDoorCards
import Derived.Test.YtggijcebobjghaaDoorTie
import Derived.Test.YtggijcebobjghaaDoorQJBounds
import Derived.Deep.DeepHandedRow
import Derived.Lib.SmallJoins
import Derived.Test.YtggijcebobjghaaDoorQForms2
import Derived.Test.YtggijcebobjghaaDoorQOpenV
set_option linter.unusedVariables false
set_option linter.unusedSimpArgs false
set_option maxRecDepth 100000
namespace Go.Proofs.YtggijcebobjghaaDoor.graphForms
open Go.ChangeShapes Go.WideShapes Go.ChangeAt Go.RowKit Go.Joins
theorem own : ownKnob Tryd.prog.godebug = none := by kernel_rfl
theorem contract (H : Type) (enc : TypeId × Value → H) (W : World) (base : Nat) (args : Array Value) (ds gs : List (DataW H)) (before : List MemPlace)
    (hval : ∀ (j : Nat) t v, Tryd.f7.params[j]? = some t → args[j]? = some v → Value.okWide Tryd.prog W .any base t v)
    (hW : DataW.Whole enc Tryd.prog Tryd.f7.params.toList Rows.graphFormsSpec.vars false W args.toList ds gs before) (hL : laidMetH Tryd.prog Rows.graphFormsRow.laid W) :
    Calls Tryd.prog 7 args W fun e W' => ∃ v, e = .returned v ∧ Rows.graphFormsSpec.post enc Tryd.prog Tryd.f7 false true false false W args v W' := by
  have hW' := hW
  obtain ⟨p, q, hA0, hV, hbf, hfz, hnd⟩ := hW
  have hA : DataW.TrodAll enc Tryd.prog W 0 (fun _ => true) true Tryd.f7.params.toList args.toList ds p := hA0
  rw [Tryd.params7] at hA hval
  have hB : Wd.Bnd W := Wd.bnd_of_laid (rest := []) hL
  have hq : gs = [] ∧ q = [] := trodVars_none hV
  obtain ⟨v0, vs0, d0, ds0, p0, q0, hargs, rfl, rfl, h0, r0⟩ := trodAll_cons hA
  obtain ⟨rfl, rfl, rfl⟩ := trodAll_nil r0
  obtain rfl : args = #[v0] := by cases args; simp_all
  have c4 : Tryd.prog.cellsOf 77 = 4 := by kernel_rfl
  obtain ⟨u0, u1, u2, u3, y0, y1, y2, y3, m, rfl, rfl, hp0, k0, k1, k2, k3⟩ := open_agg4 Tryd.underlying77 (by kernel_rfl) c4 (hval 0 77 _ rfl rfl) h0
  obtain ⟨ao0, cp0, r0l, e0, hrd0, hin0, _, _⟩ := OV.open_cells k0
  obtain ⟨ao1, cp1, r1l, e1, hrd1, hin1, _, _⟩ := OV.open_words k1
  obtain ⟨ao2, cp2, r2l, e2, hrd2, hin2, _, _⟩ := OV.open_intl k2
  obtain ⟨x, e3, rfl, w3⟩ := DataW.trod_int Tryd.underlying3 k3
  simp only [List.cons.injEq, and_true] at e0 e1 e2 e3
  subst e0 e1 e2 e3
  have b3 := bounds_i64 w3
  refine ((L10.GraphForms_any W _ _ _ _ _ _ r0l r1l r2l x hrd0 hrd1 hrd2 hin0 hin1 hin2 (by omega) hB).mono (fun e w' h => (show e = .returned (.bool true) ∧ Below W.heap.size W w' from ⟨h.1, h.2.below (by simp) (Nat.le_refl _)⟩))).mono fun e W1 hw => ?_
  obtain ⟨rfl, hbel⟩ := hw
  exact ⟨_, rfl, End.law_post End.laidOut hW' rfl (by kernel_rfl) Tryd.underlying4 rfl (by kernel_rfl) hbel⟩
/-- A WORLD FOR THE WITNESS: the settled one, the table of bounds holding what its initialiser lays. -/
noncomputable def laidWorld (os : Os) : World :=
  { World.holding Tryd.prog os ⟨#[], #[], []⟩ with heap := (World.holding Tryd.prog os ⟨#[], #[], []⟩).heap.modify 0 fun
      | .cells _ t frozen => .cells #[.int .i64 0, .int .i64 0, .int .i64 0, .int .i64 0, .int .i64 0, .int .i64 0, .int .i64 0, .int .i64 0, .int .i64 0, .int .i64 0, .int .i64 (-576460752303423488), .int .i64 576460752303423487, .int .i64 0, .int .i64 2147483647, .int .i64 1, .int .i64 22, .int .i64 0, .int .i64 2147483647] t frozen
      | o => o }

theorem laid_met (os : Os) : laidMet Tryd.prog Rows.graphFormsRow.laid ((laidWorld os).forCall (fun _ _ => 0) ⟨#[], #[.agg #[.slice none 0 0, .slice none 0 0, .slice none 0 0, .int .i64 0]], []⟩).memory :=
  laidMet_of_run' 8 (by kernel_rfl) (by kernel_rfl)
theorem reads (os : Os) {H : Type} (enc : TypeId × Value → H) : ∃ places, DataW.whole enc Tryd.prog ((laidWorld os).forCall (fun _ _ => 0) ⟨#[], #[.agg #[.slice none 0 0, .slice none 0 0, .slice none 0 0, .int .i64 0]], []⟩).memory Tryd.f7.params.toList Rows.graphFormsSpec.vars false (#[.agg #[.slice none 0 0, .slice none 0 0, .slice none 0 0, .int .i64 0]] : Array Value).toList 8 = some ([.agg [.nil, .nil, .nil, .lit (.int .i64 0)]], [], places) :=
  ⟨[], by kernel_rfl⟩
theorem lifted (os : Os) (started : os.Started) (H : Type) (enc : TypeId × Value → H) (F : Stop.Interp) :
    ReturnsInHanded {} Tryd.checked os 7 .any ((OpenSpec.ofChange Rows.graphFormsSpec).preRow enc Tryd.prog Tryd.f7 Rows.graphFormsRow.domain false Rows.graphFormsRow.laid) (((OpenSpec.ofChange Rows.graphFormsSpec).at F).post enc Tryd.prog Tryd.f7 false true false false) := by
  obtain ⟨places, hx⟩ := reads os enc
  refine returnsInHanded_of_row (C := Tryd.checked) (s := OpenSpec.ofChange Rows.graphFormsSpec) own started (by kernel_rfl) Tryd.func7
    (witness_row_at (enc := enc) (C := Tryd.checked) false (laidWorld os) #[.agg #[.slice none 0 0, .slice none 0 0, .slice none 0 0, .int .i64 0]] rfl (by kernel_rfl) (by kernel_rfl) (by kernel_rfl)
      (OpenSpec.preRow_of_cond 8 hx (by kernel_rfl) (fun k hk => by cases hk) (by kernel_rfl) (laid_met os))) ?_
  intro W base args ds gs before hval hW _ hcond hsz hL _ _
  exact contract H enc W base args ds gs before hval hW hL
theorem said : Rows.GraphFormsSaid :=
  OpenClaim.holds_of_cond 7 Tryd.f7 rfl rfl rfl rfl rfl rfl rfl ⟨rfl, rfl, rfl, rfl, rfl⟩ rfl rfl rfl rfl rfl (by kernel_rfl) Tryd.func7 (by kernel_rfl)
    (of_decide_eq_true (by kernel_rfl)) (by unfold Func.isWrapper; first | (rw [if_pos (by decide +kernel)]; kernel_rfl) | (rw [if_neg (by decide +kernel)]; exact ⟨rfl, rfl⟩))
    (fun os started H enc _ F => by rw [OpenClaim.pre_eq_preRow]; exact lifted os started H enc F)
theorem plain (f : FuncId) (fn : Func) (hf : Tryd.pinned.checked.prog.funcNamed "dapple/dapplelaw10.GraphForms" = some f) (hfn : Tryd.pinned.checked.prog.funcs[f]? = some fn) :
    false = Tryd.pinned.checked.prog.looks [] ∧ ∀ (j : Nat) t, fn.params[j]? = some t → Tryd.pinned.checked.prog.wantsStandIn t = false := by
  obtain rfl : f = 7 := Option.some.inj ((show Tryd.prog.funcNamed "dapple/dapplelaw10.GraphForms" = some 7 by kernel_rfl).symm.trans hf) |>.symm
  obtain rfl : fn = Tryd.f7 := (Option.some.inj (Tryd.func7.symm.trans hfn)).symm
  refine ⟨by kernel_rfl, fun j t ht => ?_⟩
  rw [Tryd.params7] at ht
  have hm := Array.mem_of_getElem? ht
  simp only [List.mem_toArray, List.mem_cons, List.not_mem_nil, or_false] at hm
  subst hm
  exact (show Tryd.prog.wantsStandIn 77 = false by kernel_rfl)
/-- THE CARD. -/
theorem card : Rows.GraphFormsCardSaid :=
  Claim7.holds_tied_plain_at .later [] _ _ _ _ said (fun _ h => by cases h) (by kernel_rfl) (fun _ h => by cases h) graphForms_row_tie rfl ⟨rfl, rfl⟩ (by kernel_rfl) rfl plain (by kernel_rfl)
end Go.Proofs.YtggijcebobjghaaDoor.graphForms
