/-
  PLAIN LAWS (no program): a walk by breadth finds just what there is, at its distance, the near ones first.
-/
import Derived.Test.YtggijcebobjghaaDoorQJReachP
set_option linter.unusedVariables false
set_option linter.unusedSimpArgs false
namespace Go.Proofs.YtggijcebobjghaaDoor.Bf
abbrev BS := List Nat × (Nat → Nat)
def bM (r : Nat) (s : BS) (c : Nat) : BS := if c ∈ s.1 then s else (s.1 ++ [c], fun x => if x = c then r else s.2 x)
def bF (r : Nat) (s : BS) (cs : List Nat) : BS := cs.foldl (bM r) s
def bL (nb : Nat → List Nat) : Nat → Nat → BS → BS
  | 0, _, s => s
  | k + 1, i, s => if i < s.1.length then bL nb k (i + 1) (bF (s.2 (s.1.getD i 0) + 1) s (nb (s.1.getD i 0))) else s
def b0 (st : List Nat) : BS := bF 0 ([], fun _ => 0) st
def bfs (nb : Nat → List Nat) (st : List Nat) (n : Nat) : BS := bL nb (n + 1) 0 (b0 st)
/-- There is a way of so many steps. -/
inductive Ds (nb : Nat → List Nat) (st : List Nat) : Nat → Nat → Prop
  | src (c : Nat) : c ∈ st → Ds nb st c 0
  | step (p c k : Nat) : Ds nb st p k → c ∈ nb p → Ds nb st c (k + 1)
/-- What is so of a state whose members lie at most m far. -/
structure BI (nb : Nat → List Nat) (st : List Nat) (m : Nat) (s : BS) : Prop where
  nd : s.1.Nodup
  srt : s.1.Pairwise (fun a b => s.2 a ≤ s.2 b)
  top : ∀ c ∈ s.1, s.2 c ≤ m
  snd : ∀ c ∈ s.1, Ds nb st c (s.2 c)
theorem BI.step {nb : Nat → List Nat} {st : List Nat} {m : Nat} {s : BS} (h : BI nb st m s) (c : Nat) (hc : Ds nb st c m) :
    BI nb st m (bM m s c) ∧ c ∈ (bM m s c).1 ∧ (bM m s c).2 c ≤ m ∧ (∃ t, (bM m s c).1 = s.1 ++ t) ∧ ∀ x ∈ s.1, (bM m s c).2 x = s.2 x := by
  unfold bM
  split
  · next hm => exact ⟨h, hm, h.top c hm, ⟨[], by simp⟩, fun _ _ => rfl⟩
  · next hm =>
    have hne : ∀ x ∈ s.1, x ≠ c := fun x hx e => hm (e ▸ hx)
    refine ⟨⟨?_, ?_, ?_, ?_⟩, by simp, by simp, ⟨[c], rfl⟩, fun x hx => by simp [hne x hx]⟩
    · exact List.nodup_append.2 ⟨h.nd, by simp, fun a ha b hb => by simp at hb; subst hb; exact hne a ha⟩
    · refine List.pairwise_append.2 ⟨?_, by simp, fun a ha b hb => ?_⟩
      · refine List.Pairwise.imp_of_mem ?_ h.srt
        intro a b ha hb hab
        simpa [hne a ha, hne b hb] using hab
      · simp at hb; subst hb
        simpa [hne a ha] using h.top a ha
    · intro x hx
      simp at hx
      rcases hx with hx | rfl
      · simpa [hne x hx] using h.top x hx
      · simp
    · intro x hx
      simp at hx
      rcases hx with hx | rfl
      · simpa [hne x hx] using h.snd x hx
      · simpa using hc
theorem BI.many {nb : Nat → List Nat} {st : List Nat} {m : Nat} : ∀ (cs : List Nat) {s : BS}, BI nb st m s → (∀ c ∈ cs, Ds nb st c m) →
    BI nb st m (bF m s cs) ∧ (∀ c ∈ cs, c ∈ (bF m s cs).1 ∧ (bF m s cs).2 c ≤ m) ∧ (∃ t, (bF m s cs).1 = s.1 ++ t) ∧ ∀ x ∈ s.1, (bF m s cs).2 x = s.2 x
  | [], s, h, _ => ⟨h, by simp, ⟨[], by simp [bF]⟩, fun _ _ => rfl⟩
  | c :: cs, s, h, hc => by
    obtain ⟨h1, h2, h3, ⟨t, h4⟩, h5⟩ := h.step c (hc c (by simp))
    obtain ⟨g1, g2, ⟨u, g3⟩, g4⟩ := BI.many cs h1 (fun x hx => hc x (by simp [hx]))
    have hE : bF m s (c :: cs) = bF m (bM m s c) cs := rfl
    rw [hE]
    refine ⟨g1, fun x hx => ?_, ⟨t ++ u, by rw [g3, h4, List.append_assoc]⟩, fun x hx => by rw [g4 x (by rw [h4]; simp [hx]), h5 x hx]⟩
    rcases List.mem_cons.1 hx with rfl | hx
    · refine ⟨by rw [g3]; simp [h2], ?_⟩
      rw [g4 x h2]; exact h3
    · exact g2 x hx
/-- What is so between two rounds. -/
structure BR (nb : Nat → List Nat) (st : List Nat) (i : Nat) (s : BS) : Prop where
  nd : s.1.Nodup
  srt : s.1.Pairwise (fun a b => s.2 a ≤ s.2 b)
  top : ∀ (_ : i < s.1.length), ∀ c ∈ s.1, s.2 c ≤ s.2 (s.1.getD i 0) + 1
  snd : ∀ c ∈ s.1, Ds nb st c (s.2 c)
  src : ∀ c ∈ st, c ∈ s.1 ∧ s.2 c = 0
  cpl : ∀ j < i, j < s.1.length → ∀ c ∈ nb (s.1.getD j 0), c ∈ s.1 ∧ s.2 c ≤ s.2 (s.1.getD j 0) + 1
theorem BR.start (nb : Nat → List Nat) (st : List Nat) : BR nb st 0 (b0 st) := by
  obtain ⟨h1, h2, h3, h4⟩ := BI.many (nb := nb) (st := st) (m := 0) st (s := ([], fun _ => 0)) ⟨by simp, by simp, by simp, by simp⟩ (fun c hc => .src c hc)
  exact ⟨h1.nd, h1.srt, fun _ c hc => Nat.le_trans (h1.top c hc) (Nat.zero_le _), h1.snd, fun c hc => ⟨(h2 c hc).1, by have := (h2 c hc).2; unfold b0; omega⟩, fun j hj => absurd hj (by omega)⟩
theorem getD_pre (l t : List Nat) (j : Nat) (hj : j < l.length) : (l ++ t).getD j 0 = l.getD j 0 := by
  simp [List.getD_eq_getElem?_getD, List.getElem?_append_left hj]
theorem getD_in (l : List Nat) (j : Nat) (hj : j < l.length) : l.getD j 0 ∈ l := by
  rw [List.getD_eq_getElem?_getD, List.getElem?_eq_getElem hj]; exact List.getElem_mem hj
theorem BR.round {nb : Nat → List Nat} {st : List Nat} {i : Nat} {s : BS} (h : BR nb st i s) (hi : i < s.1.length) :
    BR nb st (i + 1) (bF (s.2 (s.1.getD i 0) + 1) s (nb (s.1.getD i 0))) := by
  have him := getD_in s.1 i hi
  obtain ⟨h1, h2, ⟨t, h3⟩, h4⟩ := BI.many (nb := nb) (st := st) (m := s.2 (s.1.getD i 0) + 1) (nb (s.1.getD i 0)) (s := s) ⟨h.nd, h.srt, h.top hi, h.snd⟩ (fun c hc => .step _ c _ (h.snd _ him) hc)
  generalize bF (s.2 (s.1.getD i 0) + 1) s (nb (s.1.getD i 0)) = s' at *
  refine ⟨h1.nd, h1.srt, fun hl c hc => ?_, h1.snd, fun c hc => ?_, fun j hj hjl c hc => ?_⟩
  · have e1 := h1.top c hc
    have e2 : s'.2 (s'.1.getD i 0) ≤ s'.2 (s'.1.getD (i + 1) 0) := by
      have := List.pairwise_iff_getElem.1 h1.srt i (i + 1) (by omega) hl (by omega)
      simpa [List.getD_eq_getElem?_getD, List.getElem?_eq_getElem, hl, show i < s'.1.length by omega] using this
    have e3 : s'.1.getD i 0 = s.1.getD i 0 := by rw [h3]; exact getD_pre _ _ _ hi
    rw [e3, h4 _ him] at e2
    omega
  · obtain ⟨e1, e2⟩ := h.src c hc
    exact ⟨by rw [h3]; simp [e1], by rw [h4 c e1]; exact e2⟩
  · rcases Nat.lt_or_ge j i with hj2 | hj2
    · have e3 : s'.1.getD j 0 = s.1.getD j 0 := by rw [h3]; exact getD_pre _ _ _ (by omega)
      rw [e3] at hc ⊢
      obtain ⟨e1, e2⟩ := h.cpl j hj2 (by omega) c hc
      exact ⟨by rw [h3]; simp [e1], by rw [h4 c e1, h4 _ (getD_in s.1 j (by omega))]; exact e2⟩
    · obtain rfl : j = i := by omega
      have e3 : s'.1.getD j 0 = s.1.getD j 0 := by rw [h3]; exact getD_pre _ _ _ hi
      rw [e3] at hc ⊢
      rw [h4 _ him]
      exact h2 c hc
theorem BR.loop {nb : Nat → List Nat} {st : List Nat} : ∀ (k i : Nat) (s : BS), BR nb st i s → i ≤ s.1.length → (∃ j, BR nb st j (bL nb k i s) ∧ ((bL nb k i s).1.length ≤ j ∨ j = i + k))
  | 0, i, s, h, hi => ⟨i, h, .inr rfl⟩
  | k + 1, i, s, h, hi => by
    rw [bL]
    split
    · next hl =>
      have h1 := h.round hl
      have hlen : i + 1 ≤ (bF (s.2 (s.1.getD i 0) + 1) s (nb (s.1.getD i 0))).1.length := by
        obtain ⟨_, _, ⟨t, h3⟩, _⟩ := BI.many (nb := nb) (st := st) (m := s.2 (s.1.getD i 0) + 1) (nb (s.1.getD i 0)) (s := s) ⟨h.nd, h.srt, h.top hl, h.snd⟩ (fun c hc => .step _ c _ (h.snd _ (getD_in s.1 i hl)) hc)
        rw [h3]; simp; omega
      obtain ⟨j, g1, g2⟩ := BR.loop k (i + 1) _ h1 hlen
      exact ⟨j, g1, g2.imp id (fun e => by omega)⟩
    · next hl => exact ⟨i, h, .inl (by omega)⟩
theorem Ds.lt {nb : Nat → List Nat} {st : List Nat} {n : Nat} (hs : ∀ c ∈ st, c < n) (hn : ∀ p, p < n → ∀ c ∈ nb p, c < n) : ∀ {c k : Nat}, Ds nb st c k → c < n
  | _, _, .src c h => hs c h
  | _, _, .step p c k h hc => hn p (Ds.lt hs hn h) c hc
/-- The walk's end. -/
structure BOk (nb : Nat → List Nat) (st : List Nat) (s : BS) : Prop where
  nd : s.1.Nodup
  srt : s.1.Pairwise (fun a b => s.2 a ≤ s.2 b)
  snd : ∀ c ∈ s.1, Ds nb st c (s.2 c)
  cpl : ∀ c k, Ds nb st c k → c ∈ s.1 ∧ s.2 c ≤ k
theorem bfs_ok {nb : Nat → List Nat} {st : List Nat} {n : Nat} (hs : ∀ c ∈ st, c < n) (hn : ∀ p, p < n → ∀ c ∈ nb p, c < n) : BOk nb st (bfs nb st n) := by
  obtain ⟨j, h1, h2⟩ := BR.loop (n + 1) 0 (b0 st) (BR.start nb st) (Nat.zero_le _)
  change BR nb st j (bfs nb st n) at h1
  change (bfs nb st n).1.length ≤ j ∨ _ at h2
  have hle : (bfs nb st n).1.length ≤ n := by
    have := h1.nd.length_le_of_subset (l₂ := List.range n) (fun c hc => List.mem_range.2 (Ds.lt hs hn (h1.snd c hc)))
    simpa using this
  have hj : (bfs nb st n).1.length ≤ j := by rcases h2 with h2 | h2 <;> omega
  refine ⟨h1.nd, h1.srt, h1.snd, fun c k hk => ?_⟩
  induction hk with
  | src c hc => exact ⟨(h1.src c hc).1, by rw [(h1.src c hc).2]; exact Nat.le_refl _⟩
  | step p c k hp hc ih =>
    obtain ⟨q, hq, e⟩ := List.getElem_of_mem ih.1
    have e2 : (bfs nb st n).1.getD q 0 = p := by rw [List.getD_eq_getElem?_getD, List.getElem?_eq_getElem hq]; exact e
    obtain ⟨g1, g2⟩ := h1.cpl q (by omega) hq c (by rw [e2]; exact hc)
    rw [e2] at g2
    exact ⟨g1, by omega⟩
/-- A way backwards is a way. -/
theorem Ds.join {nf nr : Nat → List Nat} {st : List Nat} {to : Nat} (hr : ∀ p c, c ∈ nf p → p ∈ nr c) : ∀ {c i : Nat}, Ds nf st c i → ∀ {j}, Ds nr [to] c j → ∃ s ∈ st, Ds nr [to] s (i + j)
  | _, _, .src c h, j, g => ⟨c, h, by simpa using g⟩
  | _, _, .step p c k h hc, j, g => by
    obtain ⟨s, h1, h2⟩ := Ds.join hr h (Ds.step c p j g (hr p c hc))
    exact ⟨s, h1, by rwa [show k + (j + 1) = k + 1 + j by omega] at h2⟩
theorem Ds.back {nf nr : Nat → List Nat} {st : List Nat} {to : Nat} (hr : ∀ p c, c ∈ nr p → p ∈ nf c) : ∀ {c j : Nat}, Ds nr [to] c j → ∀ {i}, Ds nf st c i → Ds nf st to (i + j)
  | _, _, .src c h, i, g => by simp at h; subst h; simpa using g
  | _, _, .step p c k h hc, i, g => by
    have := Ds.back hr h (Ds.step c p i g (hr p c hc))
    rwa [show i + 1 + k = i + (k + 1) by omega] at this
end Go.Proofs.YtggijcebobjghaaDoor.Bf
