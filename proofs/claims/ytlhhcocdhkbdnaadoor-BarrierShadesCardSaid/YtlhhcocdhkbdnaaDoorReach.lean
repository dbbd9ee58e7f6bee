/-
  PLAIN LAWS (no program): the reference's Order goes along ONE row of words; it meets what graph.order meets, in the same order.
-/
import Derived.Test.YtlhhcocdhkbdnaaDoorGraph5
set_option linter.unusedVariables false
set_option linter.unusedSimpArgs false
namespace Go.Proofs.YtlhhcocdhkbdnaaDoor.Gp
open Go.RowKit Go.Proofs.YtlhhcocdhkbdnaaDoor.Wd Go.Proofs.YtlhhcocdhkbdnaaDoor.Hp Go.Proofs.YtlhhcocdhkbdnaaDoor.Gr

def stepW (s : St) (x : Int) : St := if isRef x then meet s (cellN x).toNat else s
theorem eachW_step (s : St) (l : List Int) : eachW meet s l = l.foldl stepW s := rfl
def rowW (h : List Cel) (ws : List Int) (s : St) : List Int := ws ++ s.2.flatMap (wordsOf h)
def refK (h : List Cel) (ws : List Int) : Nat → St
  | 0 => (List.replicate h.length false, [])
  | k + 1 => match (rowW h ws (refK h ws k))[k]? with | some x => stepW (refK h ws k) x | none => refK h ws k
theorem meet_pre (s : St) (c : Nat) : ∃ t, (meet s c).2 = s.2 ++ t := by
  unfold meet; split
  · exact ⟨[], by simp⟩
  · exact ⟨[c], rfl⟩
theorem stepW_pre (s : St) (x : Int) : ∃ t, (stepW s x).2 = s.2 ++ t := by
  unfold stepW; split
  · exact meet_pre s _
  · exact ⟨[], by simp⟩
theorem steps_pre : ∀ (l : List Int) (s : St), ∃ t, (l.foldl stepW s).2 = s.2 ++ t
  | [], s => ⟨[], by simp⟩
  | x :: l, s => by
    obtain ⟨t, ht⟩ := stepW_pre s x
    obtain ⟨t2, ht2⟩ := steps_pre l (stepW s x)
    exact ⟨t ++ t2, by rw [List.foldl_cons, ht2, ht, List.append_assoc]⟩
theorem rowW_pre (h : List Cel) (ws : List Int) (s : St) (x : Int) : ∃ t, rowW h ws (stepW s x) = rowW h ws s ++ t := by
  obtain ⟨t, ht⟩ := stepW_pre s x
  exact ⟨t.flatMap (wordsOf h), by simp [rowW, ht]⟩
theorem refK_run (h : List Cel) (ws : List Int) : ∀ (l : List Int) (k : Nat) (pre t : List Int), pre.length = k → rowW h ws (refK h ws k) = pre ++ l ++ t → refK h ws (k + l.length) = l.foldl stepW (refK h ws k)
  | [], k, pre, t, _, _ => rfl
  | x :: l, k, pre, t, hp, hr => by
    have h1 : refK h ws (k + 1) = stepW (refK h ws k) x := by
      show (match (rowW h ws (refK h ws k))[k]? with | some x => stepW (refK h ws k) x | none => refK h ws k) = _
      rw [hr]
      simp [← hp]
    obtain ⟨t', ht⟩ := rowW_pre h ws (refK h ws k) x
    have := refK_run h ws l (k + 1) (pre ++ [x]) (t ++ t') (by simp [hp]) (by rw [h1, ht, hr]; simp)
    rw [List.foldl_cons, ← h1, ← this]
    congr 1
    simp; omega
theorem refK_next {h : List Cel} {ws : List Int} {k : Nat} {x : Int} (hx : (rowW h ws (refK h ws k))[k]? = some x) : refK h ws (k + 1) = stepW (refK h ws k) x := by
  show (match (rowW h ws (refK h ws k))[k]? with | some x => stepW (refK h ws k) x | none => refK h ws k) = _
  rw [hx]
theorem Inv.step {n : Nat} {s : St} (h : Inv n s) (x : Int) (hx : isRef x = true → (cellN x).toNat < n) : Inv n (stepW s x) := by
  unfold stepW; split
  · next hr => exact h.meet _ (hx hr)
  · exact h
theorem rowW_mem {h : List Cel} {ws : List Int} (hm : may h ws = true) {s : St} (hi : Inv h.length s) {x : Int} (hx : x ∈ rowW h ws s) : isRef x = true → (cellN x).toNat < h.length := by
  unfold rowW at hx
  rw [List.mem_append, List.mem_flatMap] at hx
  rcases hx with hx | ⟨c, hc, hx⟩
  · exact may_roots hm x hx
  · exact may_cells hm c ((hi.mem c).1 hc).1 x hx
theorem refK_inv {h : List Cel} {ws : List Int} (hm : may h ws = true) : ∀ k, Inv h.length (refK h ws k)
  | 0 => Inv.start _
  | k + 1 => by
    have ih := refK_inv hm k
    rw [refK]
    split
    · next x hx => exact ih.step x (rowW_mem hm ih (List.mem_of_getElem? hx))
    · exact ih
theorem flatMap_le (h : List Cel) : ∀ l : List Nat, (l.flatMap (wordsOf h)).length ≤ 2 * l.length
  | [] => by simp
  | c :: l => by
    have := flatMap_le h l
    rw [List.flatMap_cons, List.length_append]
    have h2 : (wordsOf h c).length ≤ 2 := by unfold wordsOf; split <;> simp
    simp only [List.length_cons]; omega
theorem rowW_le (h : List Cel) (ws : List Int) {s : St} (hi : Inv h.length s) : (rowW h ws s).length ≤ ws.length + 2 * h.length := by
  have := flatMap_le h s.2
  have := hi.le
  unfold rowW
  rw [List.length_append]; omega
theorem refK_stable {h : List Cel} {ws : List Int} {k : Nat} (hk : (rowW h ws (refK h ws k)).length ≤ k) : ∀ d, refK h ws (k + d) = refK h ws k
  | 0 => rfl
  | d + 1 => by
    have ih := refK_stable hk d
    show (match (rowW h ws (refK h ws (k + d)))[k + d]? with | some x => stepW (refK h ws (k + d)) x | none => refK h ws (k + d)) = _
    rw [ih, List.getElem?_eq_none (by omega)]
theorem orderL_ref {h : List Cel} {ws : List Int} (hm : may h ws = true) : ∀ (fuel i k : Nat) (s : St), Inv h.length s → i ≤ s.2.length → i + fuel = h.length + 1 → refK h ws k = s → k = (ws ++ (s.2.take i).flatMap (wordsOf h)).length →
    ∃ k', refK h ws k' = orderL h fuel i s ∧ (rowW h ws (orderL h fuel i s)).length ≤ k'
  | 0, i, k, s, hi, h1, h2, _, _ => by have := hi.le; omega
  | fuel + 1, i, k, s, hi, h1, h2, h3, h4 => by
    rw [orderL]
    by_cases hlt : i < s.2.length
    · rw [if_pos hlt]
      have hc := inv_lt hi i hlt
      have hdrop : s.2 = s.2.take i ++ s.2.getD i 0 :: s.2.drop (i + 1) := by
        have e : s.2.getD i 0 = s.2[i] := by simp [List.getD, hlt]
        rw [e]; simp
      have hrow : rowW h ws (refK h ws k) = (ws ++ (s.2.take i).flatMap (wordsOf h)) ++ wordsOf h (s.2.getD i 0) ++ (s.2.drop (i + 1)).flatMap (wordsOf h) := by
        rw [h3]
        unfold rowW
        conv => lhs; rw [hdrop]
        simp
      have hrun := refK_run h ws (wordsOf h (s.2.getD i 0)) k _ _ h4.symm hrow
      rw [h3] at hrun
      obtain ⟨t, ht⟩ := steps_pre (wordsOf h (s.2.getD i 0)) s
      have hinv : Inv h.length (named h meet s (s.2.getD i 0)) := by
        have := refK_inv hm (k + (wordsOf h (s.2.getD i 0)).length)
        rw [hrun] at this
        exact this
      refine orderL_ref hm fuel (i + 1) (k + (wordsOf h (s.2.getD i 0)).length) _ hinv ?_ (by omega) hrun ?_
      · show i + 1 ≤ ((wordsOf h (s.2.getD i 0)).foldl stepW s).2.length
        rw [ht, List.length_append]; omega
      · show k + (wordsOf h (s.2.getD i 0)).length = (ws ++ (((wordsOf h (s.2.getD i 0)).foldl stepW s).2.take (i + 1)).flatMap (wordsOf h)).length
        rw [ht, List.take_append_of_le_length (by omega), h4, take_snoc _ _ 0 hlt]
        simp; omega
    · rw [if_neg hlt]
      have : i = s.2.length := by omega
      subst this
      exact ⟨k, h3, by rw [h4, List.take_length]; exact Nat.le_refl _⟩
/-- Where the row of words ends, just what order meets has been met. -/
theorem refK_end {h : List Cel} {ws : List Int} (hm : may h ws = true) {k : Nat} (hk : (rowW h ws (refK h ws k)).length ≤ k) : refK h ws k = order h ws := by
  have h0 : refK h ws ws.length = eachW meet (List.replicate h.length false, []) ws := by
    have := refK_run h ws ws 0 [] [] rfl (by simp [rowW, refK])
    rw [Nat.zero_add] at this
    exact this
  obtain ⟨k', h1, h2⟩ := orderL_ref hm (h.length + 1) 0 ws.length _ (h0 ▸ refK_inv hm _) (by omega) (by omega) h0 (by simp)
  have e1 : orderL h (h.length + 1) 0 (eachW meet (List.replicate h.length false, []) ws) = order h ws := rfl
  rw [e1] at h1 h2
  rw [← h1] at h2
  have s1 := refK_stable hk k'
  have s2 := refK_stable h2 k
  rw [← s1, Nat.add_comm, s2, h1]
end Go.Proofs.YtlhhcocdhkbdnaaDoor.Gp
