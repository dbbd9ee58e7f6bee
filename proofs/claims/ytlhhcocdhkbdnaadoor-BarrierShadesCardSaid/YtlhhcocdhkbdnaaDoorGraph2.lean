/-
  THE WALKS of graph.Check, may.
-/
import Derived.Test.YtlhhcocdhkbdnaaDoorGraph1
set_option linter.unusedVariables false
set_option linter.unusedSimpArgs false
set_option maxRecDepth 100000
namespace Go.Proofs.YtlhhcocdhkbdnaaDoor.Gr
open Go.RowKit Go.Proofs.YtlhhcocdhkbdnaaDoor.Wd Go.Proofs.YtlhhcocdhkbdnaaDoor.Hp Go.Proofs.YtlhhcocdhkbdnaaDoor.Gp Go.Proofs.YtlhhcocdhkbdnaaDoor.Sm

def checkE (h : List Cel) : Int := match badAt h.length h 0 with | none => 0 | some _ => 100
def checkI (h : List Cel) : Int := match badAt h.length h 0 with | none => 0 | some i => i
theorem badAt_none (n : Nat) : ∀ (l : List Cel) (i : Nat), (∀ j, j < l.length → okCell n (l.getD j z) = true) → badAt n l i = none
  | [], _, _ => rfl
  | x :: l, i, h => by
    have h0 := h 0 (by simp)
    simp only [List.getD_cons_zero] at h0
    rw [badAt, if_pos h0]
    exact badAt_none n l (i + 1) fun j hj => by have := h (j + 1) (by simpa using hj); simpa using this
theorem badAt_some (n : Nat) : ∀ (l : List Cel) (i k : Nat), k < l.length → (∀ j, j < k → okCell n (l.getD j z) = true) → okCell n (l.getD k z) = false → badAt n l i = some (i + k)
  | [], _, _, h, _, _ => absurd h (by simp)
  | x :: l, i, 0, _, _, hb => by
    simp only [List.getD_cons_zero] at hb
    rw [badAt, hb]; rfl
  | x :: l, i, k + 1, hk, h, hb => by
    have h0 := h 0 (by omega)
    simp only [List.getD_cons_zero] at h0
    rw [badAt, if_pos h0, badAt_some n l (i + 1) k (by simpa using hk) (fun j hj => by have := h (j + 1) (by omega); simpa using this) (by simpa using hb)]
    congr 1; omega
theorem all_getD (p : Cel → Bool) (l : List Cel) : l.all p = true ↔ ∀ j, j < l.length → p (l.getD j z) = true := by
  rw [List.all_eq_true]
  constructor
  · intro h j hj
    rw [show l.getD j z = l[j] by simp [List.getD, hj]]
    exact h _ (List.getElem_mem hj)
  · intro h x hx
    obtain ⟨j, hj, rfl⟩ := List.getElem_of_mem hx
    have := h j hj
    rwa [show l.getD j z = l[j] by simp [List.getD, hj]] at this
theorem checkE_ok (h : List Cel) : checkE h = 0 ↔ h.all (okCell h.length) = true := by
  rw [all_getD]
  unfold checkE
  constructor
  · intro he
    by_cases hx : ∀ j, j < h.length → okCell h.length (h.getD j z) = true
    · exact hx
    · have hx' : ∃ j, j < h.length ∧ okCell h.length (h.getD j z) = false := by
        apply Classical.byContradiction
        intro hn
        apply hx
        intro j hj
        cases ho : okCell h.length (h.getD j z) with
        | true => rfl
        | false => exact absurd ⟨j, hj, ho⟩ hn
      have : ∀ m, m < h.length → okCell h.length (h.getD m z) = false → badAt h.length h 0 ≠ none := by
        intro m
        induction m using Nat.strongRecOn with
        | _ m ih =>
          intro hm ho
          by_cases hf : ∀ j, j < m → okCell h.length (h.getD j z) = true
          · rw [badAt_some _ _ _ m hm hf ho]; simp
          · have : ∃ j, j < m ∧ okCell h.length (h.getD j z) = false := by
              apply Classical.byContradiction
              intro hn
              apply hf
              intro j hj
              cases hjo : okCell h.length (h.getD j z) with
              | true => rfl
              | false => exact absurd ⟨j, hj, hjo⟩ hn
            obtain ⟨j, hj, hjo⟩ := this
            exact ih j hj (by omega) hjo
      obtain ⟨j, hj, hjo⟩ := hx'
      have h3 := this j hj hjo
      revert he
      cases hb : badAt h.length h 0 with
      | none => exact absurd hb h3
      | some q => simp
  · intro hx
    rw [badAt_none _ _ _ hx]
theorem checkE_or (h : List Cel) : checkE h = 0 ∨ checkE h = 100 := by unfold checkE; split <;> simp
def ChkPost (h : List Cel) (w : World) (e : Ending) (w' : World) : Prop := e = .returned (.tuple #[.int .i64 (checkE h), .int .i64 (checkI h)]) ∧ Ch [] w w'
theorem ChkPost.bad {h : List Cel} {w w' : World} (k : Nat) (hk : k < h.length) (hf : ∀ j, j < k → okCell h.length (h.getD j z) = true) (ho : okCell h.length (h.getD k z) = false) (hc : Ch [] w w') : ChkPost h w (.returned (.tuple #[.int .i64 100, .int .i64 k])) w' := by
  refine ⟨?_, hc⟩
  unfold checkE checkI
  rw [badAt_some _ _ _ k hk hf ho]; simp
theorem ChkPost.good {h : List Cel} {w w' : World} (hf : ∀ j, j < h.length → okCell h.length (h.getD j z) = true) (hc : Ch [] w w') : ChkPost h w (.returned (.tuple #[.int .i64 0, .int .i64 0])) w' := by
  refine ⟨?_, hc⟩
  unfold checkE checkI
  rw [badAt_none _ _ _ hf]
theorem all_not_any (ws : List Int) (m : Nat) : ws.all (fun v => isWord v m) = !ws.any (fun v => !isWord v m) := by
  induction ws with
  | nil => rfl
  | cons x l ih => simp only [List.all_cons, List.any_cons, ih]; cases isWord x m <;> simp
end Go.Proofs.YtlhhcocdhkbdnaaDoor.Gr
