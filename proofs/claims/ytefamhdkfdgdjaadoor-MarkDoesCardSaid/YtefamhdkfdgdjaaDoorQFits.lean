/-
  WHAT FITS INTO A PROCESS: the lengths of lists that a law is handed.
-/
import Derived.Test.YtefamhdkfdgdjaaDoorQOpenV
import Derived.SizedLaws
set_option linter.unusedVariables false
set_option linter.unusedSimpArgs false
set_option maxRecDepth 100000
namespace Go.Proofs.YtefamhdkfdgdjaaDoor.OV
open Go.ChangeShapes Go.WideShapes Go.Deep Go.RowKit Go.Proofs.YtefamhdkfdgdjaaDoor.Hp Go.Proofs.YtefamhdkfdgdjaaDoor.Gp Go.Proofs.YtefamhdkfdgdjaaDoor.Sm Go.Proofs.YtefamhdkfdgdjaaDoor.Gr
/-- Each list takes no more than a process can hold. -/
def Fits {H : Type} (P : Program) (t : TypeId) (d : DataW H) : Prop := (d.weights P t).all (· ≤ reachBytes) = true
theorem weightsAll_mem {H : Type} {P : Program} {e : TypeId} : ∀ {l : List (DataW H)} {d : DataW H}, d ∈ l → ∀ n ∈ d.weights P e, n ∈ DataW.weightsAll P e l
  | y :: l, d, h, n, hn => by
    simp only [DataW.weightsAll, List.mem_append]
    rcases List.mem_cons.1 h with rfl | h
    · exact .inl hn
    · exact .inr (weightsAll_mem h n hn)
theorem fits_part {H : Type} {P : Program} {t : TypeId} {fs : Array Field} {parts : List (DataW H)} (ht : P.underlying t = some (.struct fs)) (h : Fits P t (.agg parts)) {j : Nat} {f : Field} {d : DataW H} (hf : fs[j]? = some f) (hd : parts[j]? = some d) : Fits P f.type d := by
  unfold Fits at h ⊢
  rw [List.all_eq_true] at h ⊢
  intro n hn
  refine h n ?_
  simp only [DataW.weights, ht]
  exact DataW.weights_mem_each (by simp [hf]) hd n hn
theorem fits_elem {H : Type} {P : Program} {t e : TypeId} {elems spare : List (DataW H)} (ht : P.underlying t = some (.slice e)) (h : Fits P t (.slice elems spare)) {d : DataW H} (hd : d ∈ elems) : Fits P e d := by
  unfold Fits at h ⊢
  rw [List.all_eq_true] at h ⊢
  intro n hn
  refine h n ?_
  simp only [DataW.weights, ht, List.mem_cons, List.mem_append]
  exact .inr (.inl (weightsAll_mem hd n hn))
theorem fits_len {H : Type} {P : Program} {t e : TypeId} {elems spare : List (DataW H)} (ht : P.underlying t = some (.slice e)) (h : Fits P t (.slice elems spare)) (hb : 0 < P.bytesOf e) : elems.length ≤ reachBytes := by
  unfold Fits at h
  rw [List.all_eq_true] at h
  have := h ((elems.length + spare.length) * P.bytesOf e) (by simp [DataW.weights, ht])
  simp only [decide_eq_true_eq] at this
  have h2 : elems.length + spare.length ≤ (elems.length + spare.length) * P.bytesOf e := Nat.le_mul_of_pos_right _ hb
  omega
theorem slice_len {H : Type} {enc : TypeId × Value → H} {P : Program} {w : World} {base : Nat} {spare : Nat → Bool} {held : Bool} {fuel : Nat} {cs : List Value} {x : DataW H × List MemPlace} {t e : TypeId} (ht : P.underlying t = some (.slice e)) (hb : 0 < P.bytesOf e)
    (h : DataW.trod enc P w base spare held fuel t cs = some x) (hw : Fits P t x.1) (ao : Option Addr) (n cap : Nat) (hc : cs = [.slice ao n cap]) : n ≤ reachBytes := by
  rcases open_slice ht h with ⟨rfl, _⟩ | ⟨a, len, cap', m, n', D, Pl, rfl, _, _, _, _, rfl, _⟩
  · simp only [List.cons.injEq, Value.slice.injEq, and_true] at hc
    omega
  · simp only [List.cons.injEq, Value.slice.injEq, and_true] at hc
    have := fits_len ht hw hb
    simp only [List.length_map, List.length_range] at this
    omega
theorem fits_of {H : Type} {P : Program} {ts : List TypeId} {ds : List (DataW H)} (h : (DataW.weightsEach P ts ds).all (· ≤ reachBytes) = true) (j : Nat) {t : TypeId} {d : DataW H} (ht : ts[j]? = some t) (hd : ds[j]? = some d) : Fits P t d := by
  unfold Fits
  rw [List.all_eq_true]
  intro n hn
  exact List.all_eq_true.1 h n (DataW.weights_mem_each ht hd n hn)
end Go.Proofs.YtefamhdkfdgdjaaDoor.OV
