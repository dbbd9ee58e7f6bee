/-
  PLAIN LAWS (no program): the heap that is made of plain cells is these.
-/
import Derived.Test.YtefamhdkfdgdjaaDoorQMReachP3
set_option linter.unusedVariables false
set_option linter.unusedSimpArgs false
namespace Go.Proofs.YtefamhdkfdgdjaaDoor.Mr
open Go.RowKit Go.Proofs.YtefamhdkfdgdjaaDoor.Wd Go.Proofs.YtefamhdkfdgdjaaDoor.Cp Go.Proofs.YtefamhdkfdgdjaaDoor.Cl Go.Proofs.YtefamhdkfdgdjaaDoor.Mk Go.Proofs.YtefamhdkfdgdjaaDoor.L15 Go.Proofs.YtefamhdkfdgdjaaDoor.R03
theorem plainC_cases (x : Cp.Cel) : plainC x = free ∨ (1 ≤ (plainC x).k ∧ (plainC x).k ≤ 3 ∧ (plainC x).c = 0) := by
  unfold plainC
  split
  · next h => exact .inr ⟨h.1, h.2, rfl⟩
  · exact .inl rfl
theorem made_step {p : List Cp.Cel} (hl : p.length = 16) (hp : ∀ c, c < 16 → p.getD c free = free ∨ (1 ≤ (p.getD c free).k ∧ (p.getD c free).k ≤ 3 ∧ (p.getD c free).c = 0)) : ∀ k, k ≤ 16 → (madeK p k).length = 16 ∧ ∀ c, c < 16 → (madeK p k).getD c free = if c < k then p.getD c free else free
  | 0, _ => by
    refine ⟨by simp [madeK], fun c hc => ?_⟩
    rw [if_neg (by omega), madeK, List.getD_eq_getElem?_getD, List.getElem?_replicate, if_pos hc]; rfl
  | k + 1, hk => by
    obtain ⟨h1, h2⟩ := made_step hl hp k (by omega)
    have hfree : (madeK p k).getD k free = free := by rw [h2 k (by omega), if_neg (by omega)]
    have hic : isC (madeK p k) k = true := by unfold isC; rw [h1]; simp; omega
    have hus : used (madeK p k) k = false := by unfold used; rw [hic, get_nat, hfree]; rfl
    have hx := hp k (by omega)
    rw [madeK]
    generalize hxx : p.getD k free = x at *
    rcases hx with hx | ⟨x1, x2, x3⟩
    · have e : make (madeK p k) k x.k x.c x.a x.b = madeK p k := by
        subst hx
        unfold make makeE
        rw [hic]
        simp [free]
      rw [e]
      refine ⟨h1, fun c hc => ?_⟩
      rw [h2 c hc]
      by_cases e2 : c = k
      · subst e2
        rw [if_neg (by omega), if_pos (by omega), hxx, hx]
      · by_cases e3 : c < k
        · rw [if_pos e3, if_pos (by omega)]
        · rw [if_neg e3, if_neg (by omega)]
    · have e : make (madeK p k) k x.k x.c x.a x.b = (madeK p k).set k x := by
        unfold make makeE
        rw [hic, hus]
        have h3 : ¬ (x.k < 1 ∨ 3 < x.k ∨ 2 < x.c) := by omega
        simp [h3]
      rw [e]
      refine ⟨by simpa using h1, fun c hc => ?_⟩
      rw [getD_setC _ _ _ _ (by omega)]
      by_cases e2 : c = k
      · subst e2
        rw [if_pos rfl, if_pos (by omega), hxx]
      · rw [if_neg e2, h2 c hc]
        by_cases e3 : c < k
        · rw [if_pos e3, if_pos (by omega)]
        · rw [if_neg e3, if_neg (by omega)]
theorem made_plain (cs : List Cp.Cel) : madeL (plainK cs 16) = plainK cs 16 := by
  have hl : (plainK cs 16).length = 16 := by simp [plainK]
  have hat : ∀ c, c < 16 → (plainK cs 16).getD c free = plainC (cs.getD c free) := fun c hc => by
    unfold plainK
    simp [List.getD_eq_getElem?_getD, hc]
  unfold madeL
  rw [hl, show min 16 16 = 16 by rfl]
  obtain ⟨h1, h2⟩ := made_step hl (fun c hc => by rw [hat c hc]; exact plainC_cases _) 16 (by omega)
  apply List.ext_getElem (by rw [h1, hl])
  intro c hc1 hc2
  have := h2 c (by omega)
  rw [if_pos (by omega)] at this
  simpa [List.getD_eq_getElem?_getD, hc1, hc2] using this
end Go.Proofs.YtefamhdkfdgdjaaDoor.Mr
