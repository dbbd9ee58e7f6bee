/-
  PLAIN LAWS (no program): graph.Path is a shortest way.
-/
import Derived.Test.YtggijcebobjghaaDoorQPathP
set_option linter.unusedVariables false
set_option linter.unusedSimpArgs false
namespace Go.Proofs.YtggijcebobjghaaDoor.Pa
open Go.RowKit Go.Proofs.YtggijcebobjghaaDoor.Wd Go.Proofs.YtggijcebobjghaaDoor.Hp Go.Proofs.YtggijcebobjghaaDoor.Gr Go.Proofs.YtggijcebobjghaaDoor.Gp Go.Proofs.YtggijcebobjghaaDoor.Bf
theorem better_mem (st : List Int) : ∀ (l : List Nat) (b : Int), l.foldl (better st) b = b ∨ ∃ c ∈ l, l.foldl (better st) b = (c : Int)
  | [], b => .inl rfl
  | x :: l, b => by
    rw [List.foldl_cons]
    rcases better_mem st l (better st b x) with e | ⟨c, h1, h2⟩
    · rw [e]
      unfold better
      split
      · exact .inr ⟨x, by simp, rfl⟩
      · exact .inl rfl
    · exact .inr ⟨c, by simp [h1], h2⟩
/-- The next cell: named, one step nearer. -/
theorem next_way {h : List Cel} {ws : List Int} (hm : may h ws = true) {to : Nat} (hto : to < h.length) {b k : Nat} (hb : b < h.length) (hk : (far h to).getD b 0 = ((k + 1 : Nat) : Int)) :
    ∃ b' : Nat, named h (better (far h to)) (-1) b = (b' : Int) ∧ b' < h.length ∧ (far h to).getD b' 0 = (k : Int) ∧ b' ∈ nf h b := by
  have hne : b ≠ to := fun e => by subst e; rw [(far_ok h b hb).zero] at hk; omega
  obtain ⟨b', h1, h2, h3, h4⟩ := next_ok (far_ok h to hto) (may_cells hm) hb (by omega) hne
  have h5 : b' ∈ nf h b := by
    rw [named, eachW_refs] at h1
    rcases better_mem (far h to) (refs (wordsOf h b)) (-1) with e | ⟨c, g1, g2⟩
    · omega
    · have : c = b' := by omega
      subst this; exact g1
  refine ⟨b', h1, h2, ?_, h5⟩
  have h6 := far_le hm hto (Ds.step b' b _ (far_way hm hto h2 h3) ((nr_iff hm b b').2 h5))
  omega
/-- The way that Path takes. -/
def pathN (h : List Cel) (st : List Int) (to : Nat) : Nat → Nat → List Nat
  | 0, b => [b]
  | k + 1, b => if b = to then [b] else b :: pathN h st to k (named h (better st) (-1) b).toNat
theorem pathL_N {h : List Cel} {ws : List Int} (hm : may h ws = true) {to : Nat} (hto : to < h.length) : ∀ (f b k : Nat) (pre : List Int), b < h.length → (far h to).getD b 0 = (k : Int) → k ≤ f →
    pathL h (far h to) to f (b : Int) (pre ++ [(b : Int)]) = pre ++ (pathN h (far h to) to f b).map (fun (c : Nat) => (c : Int)) ∧ (pathN h (far h to) to f b).length = k + 1 ∧ (pathN h (far h to) to f b)[0]? = some b ∧ (pathN h (far h to) to f b)[k]? = some to ∧
    (∀ c ∈ pathN h (far h to) to f b, c < h.length) ∧ ∀ i x y, (pathN h (far h to) to f b)[i]? = some x → (pathN h (far h to) to f b)[i + 1]? = some y → y ∈ nf h x
  | 0, b, k, pre, hb, hk, hf => by
    obtain rfl : k = 0 := by omega
    have e : b = to := by
      have hw := far_way hm hto hb (by omega)
      rw [hk] at hw
      cases hw with
      | src c hc => simpa using hc
    subst e
    refine ⟨by simp [pathL, pathN], by simp [pathN], by simp [pathN], by simp [pathN], by simp [pathN, hb], fun i x y hx hy => by simp [pathN] at hy⟩
  | f + 1, b, k, pre, hb, hk, hf => by
    by_cases e : b = to
    · subst e
      have : k = 0 := by rw [(far_ok h b hb).zero] at hk; omega
      subst this
      have e2 : pathN h (far h b) b (f + 1) b = [b] := by rw [pathN, if_pos rfl]
      rw [e2]
      refine ⟨by simp [pathL], rfl, rfl, rfl, by simp [hb], fun i x y hx hy => by simp at hy⟩
    · obtain ⟨k', rfl⟩ : ∃ k', k = k' + 1 := by
        refine ⟨k - 1, ?_⟩
        have : k ≠ 0 := fun e0 => by
          subst e0
          have hw := far_way hm hto hb (by omega)
          rw [hk] at hw
          cases hw with
          | src c hc => exact e (by simpa using hc)
        omega
      obtain ⟨b', h1, h2, h3, h4⟩ := next_way hm hto hb hk
      obtain ⟨g1, g2, g3, g4, g5, g6⟩ := pathL_N hm hto f b' k' (pre ++ [(b : Int)]) h2 h3 (by omega)
      have e2 : pathN h (far h to) to (f + 1) b = b :: pathN h (far h to) to f b' := by rw [pathN, if_neg e, h1]; rfl
      have e3 : ¬ ((b : Int) = (to : Int)) := by omega
      rw [e2]
      refine ⟨?_, by simp [g2], rfl, by simpa using g4, ?_, ?_⟩
      · rw [pathL, if_neg e3, Int.toNat_natCast, h1, g1]; simp
      · intro c hc
        rcases List.mem_cons.1 hc with rfl | hc
        · exact hb
        · exact g5 c hc
      · intro i x y hx hy
        cases i with
        | zero =>
          have hx' : b = x := by simpa using hx
          have hy' : (pathN h (far h to) to f b')[0]? = some y := hy
          rw [g3] at hy'
          cases hy'
          subst hx'
          exact h4
        | succ i => exact g6 i x y (by simpa using hx) (by simpa using hy)
/-- What Path answers: of each cell whether it is reached, and a shortest way from a root. -/
structure PWay (h : List Cel) (rs : List Nat) (to k : Nat) (P : List Nat) : Prop where
  len : P.length = k + 1
  beg : ∃ b ∈ rs, P[0]? = some b
  fin : P[k]? = some to
  lt : ∀ c ∈ P, c < h.length
  chn : ∀ i x y, P[i]? = some x → P[i + 1]? = some y → y ∈ nf h x
theorem far_lt {h : List Cel} {ws : List Int} (hm : may h ws = true) {to : Nat} (hto : to < h.length) (c : Nat) : (far h to).getD c 0 < h.length := (far_ok h to hto).lt c
theorem path_none {h : List Cel} {ws : List Int} (hm : may h ws = true) {to : Nat} (hto : to < h.length) (hd : ∀ k, ¬ Ds (nf h) (refs ws) to k) : ¬ 0 ≤ best h to ws := by
  intro h0
  have hb : best h to ws = (refs ws).foldl (better (far h to)) (-1) := by rw [best, eachW_refs]
  have hok := BOk.each (n := h.length) (st := far h to) (b := -1) (.inl rfl) ws (may_roots hm)
  change Gr.BOk _ _ (best h to ws) at hok
  rcases better_mem (far h to) (refs ws) (-1) with e | ⟨c, g1, g2⟩
  · omega
  · have hc : best h to ws = (c : Int) := by rw [hb, g2]
    rcases hok with e | ⟨e1, e2, e3⟩
    · omega
    · rw [hc, Int.toNat_natCast] at e3
      have hcl : c < h.length := by omega
      exact hd _ (Ds.back (i := 0) (fun p c hx => (nr_iff hm c p).1 hx) (far_way hm hto hcl e3) (.src c g1))
theorem path_way {h : List Cel} {ws : List Int} (hm : may h ws = true) {to : Nat} (hto : to < h.length) {k : Nat} (hd : Ds (nf h) (refs ws) to k) (hmin : ∀ j, Ds (nf h) (refs ws) to j → k ≤ j) :
    0 ≤ best h to ws ∧ ∃ P, path h to ws = P.map (fun (c : Nat) => (c : Int)) ∧ PWay h (refs ws) to k P ∧ k < h.length ∧ ∃ b : Nat, best h to ws = (b : Int) ∧ P = pathN h (far h to) to h.length b := by
  obtain ⟨s, hs, hs2⟩ := Ds.join (nr := nr h) (to := to) (fun p c hx => (nr_iff hm p c).2 hx) hd (.src to (by simp))
  have hsl := far_le hm hto hs2
  obtain ⟨v, v1, v2, v3⟩ := refs_mem.1 hs
  have h1 := (eachW_better (far h to) ws (-1)).2 v v1 v2 (by rw [v3]; exact hsl.1)
  change 0 ≤ best h to ws ∧ (far h to).getD (best h to ws).toNat 0 ≤ _ at h1
  rw [v3] at h1
  have hb : best h to ws = (refs ws).foldl (better (far h to)) (-1) := by rw [best, eachW_refs]
  have hok := BOk.each (n := h.length) (st := far h to) (b := -1) (.inl rfl) ws (may_roots hm)
  change Gr.BOk _ _ (best h to ws) at hok
  rcases better_mem (far h to) (refs ws) (-1) with e | ⟨c, g1, g2⟩
  · omega
  · have hc : best h to ws = (c : Int) := by rw [hb, g2]
    rcases hok with e | ⟨e1, e2, e3⟩
    · omega
    · rw [hc, Int.toNat_natCast] at e3 h1
      have hcl : c < h.length := by omega
      have hw := far_way hm hto hcl e3
      have hmn := hmin _ (Ds.back (i := 0) (fun p c hx => (nr_iff hm c p).1 hx) hw (.src c g1))
      have hk : (far h to).getD c 0 = (k : Int) := by omega
      have hlt := far_lt hm hto c
      obtain ⟨p1, p2, p3, p4, p5, p6⟩ := pathL_N hm hto h.length c k [] hcl hk (by omega)
      refine ⟨by omega, pathN h (far h to) to h.length c, ?_, ⟨p2, ⟨c, g1, p3⟩, p4, p5, p6⟩, by omega, c, hc, rfl⟩
      unfold path
      rw [hc]
      simpa using p1
end Go.Proofs.YtggijcebobjghaaDoor.Pa
