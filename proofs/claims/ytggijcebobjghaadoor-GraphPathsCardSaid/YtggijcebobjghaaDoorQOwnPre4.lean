/-
  LISTS THAT ARE NOBODY ELSE's, of elements of four cells (no program).
-/
import Derived.Test.YtggijcebobjghaaDoorQJOwnPre2
set_option linter.unusedVariables false
set_option linter.unusedSimpArgs false
namespace Go.Proofs.YtggijcebobjghaaDoor.Own
open Go.RowKit Go.Proofs.YtggijcebobjghaaDoor.Hp
theorem Has.at4 {w : World} {e : TypeId} {v : SV} {xs : List Value} (h : Has w e 4 v xs) (k : Nat) (hk : k < v.n) (hx : xs.length = k * 4) : ∃ q off, v.ao = some ⟨q, off, none⟩ ∧ q ∈ v.bk ∧ (∀ t, t < 4 → (∃ u, w.cell? ⟨q, off + k * 4 + t, none⟩ = some u) ∧ w.frozen? ⟨q, off + k * 4 + t, none⟩ = false) ∧
    ∀ u0 u1 u2 u3, Has ((((w.setCell ⟨q, off + k * 4, none⟩ u0).setCell ⟨q, off + k * 4 + 1, none⟩ u1).setCell ⟨q, off + k * 4 + 2, none⟩ u2).setCell ⟨q, off + k * 4 + 3, none⟩ u3) e 4 v (xs ++ [u0, u1, u2, u3]) := by
  obtain ⟨q, off, arr, ha, hq, hh, hs, H⟩ := h.put k hk hx [.bool true, .bool true, .bool true, .bool true] rfl
  refine ⟨q, off, ha, hq, fun t ht => ⟨⟨arr[off + k * 4 + t]'(by omega), by rw [cell_at hh, Array.getElem?_eq_getElem (by omega)]⟩, free_at hh⟩, fun u0 u1 u2 u3 => ?_⟩
  obtain ⟨q', off', arr', ha', hq', hh', hs', H⟩ := h.put k hk hx [u0, u1, u2, u3] rfl
  rw [ha] at ha'
  simp only [Option.some.injEq, Addr.mk.injEq, and_true] at ha'
  obtain ⟨rfl, rfl⟩ := ha'
  rw [hh] at hh'
  simp only [Option.some.injEq, Obj.cells.injEq, and_true] at hh'
  obtain rfl := hh'
  refine H _ _ (heap_set (i := off + k * 4 + 3) (heap_set (i := off + k * 4 + 2) (heap_set (i := off + k * 4 + 1) (heap_set (i := off + k * 4) hh u0) u1) u2) u3) (by simp) (fun j hj => by rw [Array.getElem?_setIfInBounds_ne (by omega), Array.getElem?_setIfInBounds_ne (by omega), Array.getElem?_setIfInBounds_ne (by omega), Array.getElem?_setIfInBounds_ne (by omega)]) (fun t ht => ?_)
  have : t = 0 ∨ t = 1 ∨ t = 2 ∨ t = 3 := by omega
  rcases this with rfl | rfl | rfl | rfl
  · rw [Array.getElem?_setIfInBounds_ne (by omega), Array.getElem?_setIfInBounds_ne (by omega), Array.getElem?_setIfInBounds_ne (by omega), Nat.add_zero, Array.getElem?_setIfInBounds_self_of_lt (by omega)]; rfl
  · rw [Array.getElem?_setIfInBounds_ne (by omega), Array.getElem?_setIfInBounds_ne (by omega), Array.getElem?_setIfInBounds_self_of_lt (by simp; omega)]; rfl
  · rw [Array.getElem?_setIfInBounds_ne (by omega), Array.getElem?_setIfInBounds_self_of_lt (by simp; omega)]; rfl
  · rw [Array.getElem?_setIfInBounds_self_of_lt (by simp; omega)]; rfl
section
variable {e : TypeId} {sz : Nat} {bo : Option Addr} {N : Nat} {V : Nat → SV} {S : List Nat} {mk tk : Nat → Nat → List Value} {w0 w w' : World}
theorem P1.four (hl : LLs w0 e 4 bo N V S) {i k : Nat} (h : P1 e 4 N V S mk w0 w i k) (hi : i < N) (hk : k < (V i).n) (u0 u1 u2 u3 : Value) (hm : mk i k = [u0, u1, u2, u3]) (hml : ∀ i k, (mk i k).length = 4) :
    ∃ q off, (V i).ao = some ⟨q, off, none⟩ ∧ (∀ t, t < 4 → (∃ u, w.cell? ⟨q, off + k * 4 + t, none⟩ = some u) ∧ w.frozen? ⟨q, off + k * 4 + t, none⟩ = false) ∧
      P1 e 4 N V S mk w0 ((((w.setCell ⟨q, off + k * 4, none⟩ u0).setCell ⟨q, off + k * 4 + 1, none⟩ u1).setCell ⟨q, off + k * 4 + 2, none⟩ u2).setCell ⟨q, off + k * 4 + 3, none⟩ u3) i (k + 1) := by
  have hi' := h.2 i hi
  rw [if_neg (by omega), if_pos rfl] at hi'
  obtain ⟨q, off, g1, g2, g3, g5⟩ := hi'.at4 k hk (by rw [rowOf_len (hml i)])
  refine ⟨q, off, g1, g3, (((h.1.setCell _ _ (.inl (hl.inS i hi q g2))).setCell _ _ (.inl (hl.inS i hi q g2))).setCell _ _ (.inl (hl.inS i hi q g2))).setCell _ _ (.inl (hl.inS i hi q g2)), fun j hj => ?_⟩
  by_cases e1 : j = i
  · subst e1
    rw [if_neg (by omega), if_pos rfl, rowOf_succ, hm]
    exact g5 u0 u1 u2 u3
  · have hj' := h.2 j hj
    rw [if_neg e1] at hj' ⊢
    have hne := fun q' (hq' : q' ∈ (V j).bk) (e2 : q' = q) => hl.dis i j hi hj (Ne.symm e1) q g2 (by rw [← e2]; exact hq')
    exact hj'.keep (fun q' hq' o ho => (heap_set_ne (hne q' hq')).trans ((heap_set_ne (hne q' hq')).trans ((heap_set_ne (hne q' hq')).trans ((heap_set_ne (hne q' hq')).trans ho))))
end
end Go.Proofs.YtggijcebobjghaaDoor.Own
