/-
  A LAW's END, once for all laws: a call that comes to true and turns nothing of what was there before it is what the row asks; each argument reads behind it as it read ahead of it.
-/
import Derived.Test.YtlhhcocdhkbdnaaDoorProg
import Derived.WalkKit
import Derived.ProofKit
import Derived.OpenShut
import Derived.KernelRfl
namespace Go.Proofs.YtlhhcocdhkbdnaaDoor.End
open Go.ChangeShapes Go.WideShapes Go.ChangeAt Go.RowKit

theorem laidOut : laidOutB Tryd.prog = true := by kernel_rfl

section
variable {H : Type} {enc : TypeId × Value → H} {P : Program}

theorem trodAll_stays (hl : laidOutB P = true) {W W' : World} (hb : Below W.heap.size W W') : ∀ (ts : List TypeId) (vs : List Value) (ds : List (DataW H)) (ps : List MemPlace),
    (ts.all (fun t => P.readableRec t && decide (t < P.types.size))) = true → DataW.TrodAll enc P W 0 (fun _ => true) true ts vs ds ps → (∀ x ∈ ps, x.block < W.heap.size) →
    DataW.TrodAll enc P W' 0 (fun b => decide (b < W.heap.size)) true ts vs ds ps
  | [], [], [], _, _, h, _ => h
  | t :: ts, v :: vs, d :: ds, ps, ha, h, hlt => by
    rw [List.all_cons, Bool.and_eq_true, Bool.and_eq_true, decide_eq_true_eq] at ha
    obtain ⟨⟨hr, hs⟩, ha'⟩ := ha
    obtain ⟨p, q, h0, h1, rfl⟩ := h
    exact ⟨p, q, Below.trod hl hr hs h0 hb (fun x hx => hlt x (by simp [hx])), trodAll_stays hl hb ts vs ds q ha' h1 (fun x hx => hlt x (by simp [hx])), rfl⟩
  | [], _ :: _, _, _, _, h, _ => by cases h
  | [], [], _ :: _, _, _, h, _ => by cases h
  | _ :: _, [], _, _, _, h, _ => by cases h
  | _ :: _, _ :: _, [], _, _, h, _ => by cases h

/-- THE END: 'true', and nothing of what was there has turned. -/
theorem law_post (hl : laidOutB P = true) {f : Func} {s : ChangeSpec} {W W' : World} {args : Array Value} {ds gs : List (DataW H)} {before : List MemPlace} {tb : TypeId}
    (hW : DataW.Whole enc P f.params.toList s.vars false W args.toList ds gs before) (hv : s.vars = [])
    (hr : f.resultTypes = #[tb]) (htb : P.underlying tb = some .bool)
    (hs : s.fn H (ds ++ []) = { results := [.lit (.bool true)], args := ds })
    (hp : (f.params.toList.all (fun t => P.readableRec t && decide (t < P.types.size))) = true) (hb : Below W.heap.size W W') :
    s.post enc P f false true false false W args (.bool true) W' := by
  have hW' := hW
  obtain ⟨p, q, hA, hV, hbf, hfz, hnd⟩ := hW
  rw [hv] at hV
  have hgs : gs = [] ∧ q = [] := by
    cases gs with
    | nil => exact ⟨rfl, hV⟩
    | cons g gs => cases hV
  obtain ⟨rfl, rfl⟩ := hgs
  rw [List.append_nil] at hbf
  subst hbf
  have hlt : ∀ x ∈ before, x.block < W.heap.size := fun x hx => by simpa using hW'.lt x hx
  refine ⟨ds, [], before, [], before, [], hW', ?_, ?_, ?_, Below.frame hb _, fun h => by cases h⟩
  · rw [hs, hr]
    exact trodAll_mk1 (shut_bool htb _)
  · rw [hs]
    exact trodAll_stays hl hb _ _ _ _ hp hA hlt
  · rw [hs, hv]
    exact rfl
end
end Go.Proofs.YtlhhcocdhkbdnaaDoor.End
