/-
  PLAIN LAWS (no program): a whole sweep of a heap without grey cells.
-/
import Derived.Test.YtkcplmablelmbaaSweepPure
namespace Go.Proofs.Ytkcplmablelmbaa.Sw
open Go.Proofs.Ytkcplmablelmbaa.Cp

def sweep1 (x : Cel) : Cel := if x.c = 0 then free else { x with c := 0 }
def NoGrey (l : List Cel) : Prop := ∀ x ∈ l, x.c ≠ 1
def swept (l : List Cel) (k : Nat) : List Cel := (l.take k).map sweep1 ++ l.drop k
def white (x : Cel) : Bool := (x.k != 0) && (x.c == 0)
def freedTo (l : List Cel) (k : Nat) : Nat := ((l.take k).filter white).length
theorem swept_length (l : List Cel) (k : Nat) : (swept l k).length = l.length := by simp [swept]; omega
theorem swept_zero (l : List Cel) : swept l 0 = l := by simp [swept]
theorem swept_all (l : List Cel) : swept l l.length = l.map sweep1 := by simp [swept]
theorem freedTo_zero (l : List Cel) : freedTo l 0 = 0 := by simp [freedTo]
theorem freedTo_le (l : List Cel) (k : Nat) : freedTo l k ≤ l.length := by
  unfold freedTo
  exact Nat.le_trans (List.length_filter_le _ _) (by simp; omega)
theorem swept_get (l : List Cel) (k : Nat) (h : k < l.length) : (swept l k).getD k free = l.getD k free := by
  unfold swept
  simp only [List.getD_eq_getElem?_getD]
  rw [List.getElem?_append_right (by simp; omega)]
  simp [show k - min k l.length = 0 by omega]
theorem swept_step (l : List Cel) (k : Nat) (h : k < l.length) : (swept l k).set k (sweep1 (l.getD k free)) = swept l (k + 1) := by
  unfold swept
  rw [List.set_append_right _ _ (by simp; omega), show k - ((l.take k).map sweep1).length = 0 by simp; omega, List.drop_eq_getElem_cons h, List.set_cons_zero]
  rw [show List.take (k + 1) l = List.take k l ++ [l[k]] by simp]
  simp only [List.map_append, List.map_cons, List.map_nil, List.append_assoc, List.cons_append, List.nil_append]
  rw [show l.getD k free = l[k] by simp [List.getD, h]]
theorem freedTo_step (l : List Cel) (k : Nat) (h : k < l.length) : freedTo l (k + 1) = freedTo l k + if white (l.getD k free) then 1 else 0 := by
  unfold freedTo
  rw [show List.take (k + 1) l = List.take k l ++ [l[k]] by simp, List.filter_append, List.length_append]
  rw [show l.getD k free = l[k] by simp [List.getD, h]]
  cases hw : white l[k] <;> simp [hw]
theorem set_same (l : List Cel) (k : Nat) (x : Cel) (h : k < l.length) (hx : l.getD k free = x) : l.set k x = l := by
  apply List.ext_getElem?
  intro i
  by_cases e : k = i
  · subst e
    rw [List.getElem?_set_self h, ← hx]
    simp [List.getD, h]
  · rw [List.getElem?_set_ne e]
/-- ONE STEP OF THE SWEEP. -/
theorem sweep_step (l : List Cel) (hl : ∀ x ∈ l, OkC x) (hg : NoGrey l) (k : Nat) (h : k < l.length) :
    cellOf (swept l k) k = k ∧ backOf (swept l k) k = white (l.getD k free) ∧ errOf (swept l k) k = 0 ∧ next (swept l k) k = swept l (k + 1) ∧ atOf (swept l k) k = k + 1 ∧ freedOf (swept l k) k (freedTo l k) = freedTo l (k + 1) := by
  have hm : l.getD k free ∈ l := by rw [show l.getD k free = l[k] by simp [List.getD, h]]; exact List.getElem_mem h
  have ok := hl _ hm
  have ng := hg _ hm
  have hs := swept_step l k h
  have hf := freedTo_step l k h
  have hge := swept_get l k h
  have hlen : k < (swept l k).length := by rw [swept_length]; exact h
  have hself := set_same (swept l k) k (l.getD k free) hlen hge
  rw [← hs, hf]
  clear hs hf
  have hw : way (swept l k) k = if (l.getD k free).k = 0 then 1 else if (l.getD k free).c = 1 then 0 else if (l.getD k free).c = 0 then 2 else 3 := by
    unfold way; rw [if_pos hlen, hge]
  unfold cellOf backOf errOf next atOf freedOf
  rw [hge]
  generalize l.getD k free = x at *
  by_cases hk : x.k = 0
  · have hx : x = free := by
      rcases ok with h | h
      · exact h
      · omega
    subst hx
    rw [if_pos hk] at hw
    rw [hw]
    refine ⟨rfl, rfl, rfl, ?_, rfl, rfl⟩
    exact hself.symm
  · rw [if_neg hk, if_neg ng] at hw
    by_cases hc : x.c = 0
    · rw [if_pos hc] at hw
      have hwh : white x = true := by simp [white, hc]; exact hk
      rw [hw, hwh]
      refine ⟨rfl, rfl, rfl, ?_, rfl, rfl⟩
      simp [sweep1, hc]
    · rw [if_neg hc] at hw
      have hwh : white x = false := by simp [white, hc]
      rw [hw, hwh]
      refine ⟨rfl, rfl, rfl, ?_, rfl, rfl⟩
      simp [sweep1, hc]
theorem sweep1_ok {x : Cel} (h : OkC x) : OkC (sweep1 x) ∧ (sweep1 x).c ≠ 1 := by
  unfold sweep1
  by_cases hc : x.c = 0
  · rw [if_pos hc]; exact ⟨.inl rfl, by decide⟩
  · rw [if_neg hc]
    rcases h with h | h
    · subst h; exact absurd rfl hc
    · exact ⟨.inr ⟨h.1, h.2.1, by simp, by simp, h.2.2.2.2⟩, by simp⟩
end Go.Proofs.Ytkcplmablelmbaa.Sw
