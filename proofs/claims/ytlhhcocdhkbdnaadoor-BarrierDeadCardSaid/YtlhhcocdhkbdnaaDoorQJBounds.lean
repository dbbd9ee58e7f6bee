/-
  A LAW's END, once for all laws: a call that comes to true and turns nothing of what was there before it is what the row asks; each argument reads behind it as it read ahead of it.
  The table words.bounds, listed in a row as its initialiser lays it, is the table of which the walks speak.
-/
import Derived.Test.YtlhhcocdhkbdnaaDoorProg
import Derived.WalkKit
import Derived.ProofKit
import Derived.OpenShut
import Derived.KernelRfl
import Derived.Test.YtlhhcocdhkbdnaaDoorRows
import Derived.Test.YtlhhcocdhkbdnaaDoorQJWords
import Derived.Lib.LaidTab
namespace Go.Proofs.YtlhhcocdhkbdnaaDoor.End
open Go.ChangeShapes Go.WideShapes Go.ChangeAt Go.RowKit

theorem laidOut : laidOutB Tryd.prog = true := by kernel_rfl

section
variable {H : Type} {enc : TypeId × Value → H} {P : Program}

theorem trodAll_stays (hl : laidOutB P = true) {W W' : World} (hb : Below W.heap.size W W') : ∀ (ts : List TypeId) (vs : List Value) (ds : List (DataW H)) (ps : List MemPlace),
    (ts.all (fun t => P.readableRec t && decide (t < P.types.size))) = true → DataW.TrodAll enc P W 0 (fun _ => true) true ts vs ds ps → (∀ x ∈ ps, x.block < W.heap.size) →
    DataW.TrodAll enc P W' 0 (fun b => decide (b < W.heap.size)) true ts vs ds ps
  | [], [], [], _, _, h, _ => h
  | t :: ts, v :: vs, d :: ds, ps, ha, h, hlt => by
    rw [List.all_cons, Bool.and_eq_true, Bool.and_eq_true, decide_eq_true_eq] at ha
    obtain ⟨⟨hr, hs⟩, ha'⟩ := ha
    obtain ⟨p, q, h0, h1, rfl⟩ := h
    exact ⟨p, q, Below.trod hl hr hs h0 hb (fun x hx => hlt x (by simp [hx])), trodAll_stays hl hb ts vs ds q ha' h1 (fun x hx => hlt x (by simp [hx])), rfl⟩
  | [], _ :: _, _, _, _, h, _ => by cases h
  | [], [], _ :: _, _, _, h, _ => by cases h
  | _ :: _, [], _, _, _, h, _ => by cases h
  | _ :: _, _ :: _, [], _, _, h, _ => by cases h

/-- THE END: 'true', and nothing of what was there has turned. -/
theorem law_post (hl : laidOutB P = true) {f : Func} {s : ChangeSpec} {W W' : World} {args : Array Value} {ds gs : List (DataW H)} {before : List MemPlace} {tb : TypeId}
    (hW : DataW.Whole enc P f.params.toList s.vars false W args.toList ds gs before) (hv : s.vars = [])
    (hr : f.resultTypes = #[tb]) (htb : P.underlying tb = some .bool)
    (hs : s.fn H (ds ++ []) = { results := [.lit (.bool true)], args := ds })
    (hp : (f.params.toList.all (fun t => P.readableRec t && decide (t < P.types.size))) = true) (hb : Below W.heap.size W W') :
    s.post enc P f false true false false W args (.bool true) W' := by
  have hW' := hW
  obtain ⟨p, q, hA, hV, hbf, hfz, hnd⟩ := hW
  rw [hv] at hV
  have hgs : gs = [] ∧ q = [] := by
    cases gs with
    | nil => exact ⟨rfl, hV⟩
    | cons g gs => cases hV
  obtain ⟨rfl, rfl⟩ := hgs
  rw [List.append_nil] at hbf
  subst hbf
  have hlt : ∀ x ∈ before, x.block < W.heap.size := fun x hx => by simpa using hW'.lt x hx
  refine ⟨ds, [], before, [], before, [], hW', ?_, ?_, ?_, Below.frame hb _, fun h => by cases h⟩
  · rw [hs, hr]
    exact trodAll_mk1 (shut_bool htb _)
  · rw [hs]
    exact trodAll_stays hl hb _ _ _ _ hp hA hlt
  · rw [hs, hv]
    exact rfl
end
end Go.Proofs.YtlhhcocdhkbdnaaDoor.End

namespace Go.Proofs.YtlhhcocdhkbdnaaDoor.Wd
open Go.RowKit Go.Lib

theorem cells_of_rows {H : Type} {enc : TypeId × Value → H} {P : Program} {w : World} {base : Nat} {sp : Nat → Bool} {held : Bool} {fuel : Nat} {t e i : TypeId} {n m : Nat} {k : IntKind} {cs : List Value} {rows : List (List Int)} {p : List MemPlace}
    (ht : P.underlying t = some (.array n e)) (he : P.underlying e = some (.array m i)) (hi : P.underlying i = some (.int k)) (hce : P.cellsOf e = m) (hci : P.cellsOf i = 1)
    (h : DataW.trod enc P w base sp held fuel t cs = some (.agg (rows.map fun zs => tabData k zs), p)) : ∀ r, r < n → (cs.drop (r * m)).take m = (rows.getD r []).map fun z => Value.int k z := by
  cases fuel with
  | zero => simp [DataW.trod] at h
  | succ fuel =>
    simp only [DataW.trod, ht, hce] at h
    split at h
    · rename_i hl
      obtain ⟨xs, hm, hx⟩ := Option.map_eq_some_iff.1 h
      have hxs : xs.map (·.1) = rows.map fun zs => (tabData k zs : DataW H) := by
        have := congrArg Prod.fst hx
        simpa using this
      intro r hr
      obtain ⟨b, hb, hf⟩ := mapM_at hm r r (by simp [hr])
      have h2 : (xs.map (·.1))[r]? = some b.1 := by simp [hb]
      rw [hxs] at h2
      simp only [List.getElem?_map, Option.map_eq_some_iff] at h2
      obtain ⟨zs, hz, hb'⟩ := h2
      have hf' : DataW.trod enc P w base sp held fuel e ((cs.drop (r * m)).take m) = some (tabData k zs, b.2) := by rw [hf, hb']
      have := cells_of_tab he hi hci hce hf'
      rw [this]
      have e2 : rows.getD r [] = zs := by simp [hz]
      rw [e2]
    · cases h

theorem bnd_of_laid {W : World} {rest : List (String × DataW Unit)} (h : laidMet Tryd.prog (("dapple/words.bounds", Rows.laid_dapple_words_bounds) :: rest) W) : Bnd W := by
  have g0 : Tryd.prog.globalNamed "dapple/words.bounds" = some 0 := by kernel_rfl
  have g1 : (Tryd.prog.globals[0]?).map (·.type) = some 186 := by kernel_rfl
  have c1 : Tryd.prog.cellsOf 185 = 2 := by kernel_rfl
  have c2 : Tryd.prog.cellsOf 2 = 1 := by kernel_rfl
  obtain ⟨ps, ⟨g', t', cs, fuel, p, q, hg', ht', hvar, hd, _, _⟩, _⟩ := h
  obtain rfl := Option.some.inj (g0.symm.trans hg')
  obtain rfl := Option.some.inj (g1.symm.trans ht')
  have hd' : DataW.trod _ Tryd.prog W 0 _ _ fuel 186 cs.toList = some (.agg ([[0, 0], [0, 0], [0, 0], [0, 0], [0, 0], [-576460752303423488, 576460752303423487], [0, 2147483647], [1, 22], [0, 2147483647]].map fun zs => tabData .i64 zs), p) := hd
  have hc := cells_of_rows Tryd.underlying186 Tryd.underlying185 Tryd.underlying2 c1 c2 hd'
  clear hd hd'
  have at_ : ∀ r, r < 9 → ∀ a b : Int, [[0, 0], [0, 0], [0, 0], [0, 0], [0, 0], [-576460752303423488, 576460752303423487], [0, 2147483647], [1, 22], [0, 2147483647]].getD r [] = [a, b] →
      W.cell? ⟨0, r * 2, none⟩ = some (.int .i64 a) ∧ W.cell? ⟨0, r * 2 + 1, none⟩ = some (.int .i64 b) := by
    intro r hr a b hab
    have e := hc r hr
    rw [hab] at e
    rw [World.var?_cell g0 hvar, World.var?_cell g0 hvar]
    have e0 := congrArg (·[0]?) e
    have e1 := congrArg (·[1]?) e
    simp only [List.getElem?_take, List.getElem?_drop, List.map_cons, List.map_nil, List.getElem?_cons_zero, List.getElem?_cons_succ] at e0 e1
    constructor
    · simpa using e0
    · simpa using e1
  intro t ht
  match t, ht with
  | 0, _ => exact at_ 0 (by omega) _ _ rfl
  | 1, _ => exact at_ 1 (by omega) _ _ rfl
  | 2, _ => exact at_ 2 (by omega) _ _ rfl
  | 3, _ => exact at_ 3 (by omega) _ _ rfl
  | 4, _ => exact at_ 4 (by omega) _ _ rfl
  | 5, _ => exact at_ 5 (by omega) _ _ rfl
  | 6, _ => exact at_ 6 (by omega) _ _ rfl
  | 7, _ => exact at_ 7 (by omega) _ _ rfl
  | 8, _ => exact at_ 8 (by omega) _ _ rfl
end Go.Proofs.YtlhhcocdhkbdnaaDoor.Wd
