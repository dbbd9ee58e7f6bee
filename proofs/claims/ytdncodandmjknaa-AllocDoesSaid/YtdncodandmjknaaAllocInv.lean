/-
  PLAIN LAWS (no program): what is so of every allocator that is only asked: gifts and cells belong together; while somebody waits none is free.
-/
import Derived.Test.YtdncodandmjknaaAllocPure
set_option linter.unusedVariables false
set_option linter.unusedSimpArgs false
namespace Go.Proofs.Ytdncodandmjknaa.Ap

structure Inv (s : St) : Prop where
  ok : Ok s
  v3 : ∀ x ∈ s.cs, x = 0 ∨ x = 1 ∨ x = 2
  g1 : ∀ t, t < 9 → 0 < s.gs.getD t 0 → s.cs.getD (s.gs.getD t 0 - 1).toNat 0 = 2
  g2 : ∀ i, i < s.cs.length → s.cs.getD i 0 = 2 → ∃ t, 1 ≤ t ∧ t < 9 ∧ s.gs.getD t 0 = i + 1
  g3 : ∀ t u, t < 9 → u < 9 → 0 < s.gs.getD t 0 → s.gs.getD t 0 = s.gs.getD u 0 → t = u
  g0 : s.gs.getD 0 0 = 0
  qf : s.q ≠ [] → ∀ i, i < s.cs.length → s.cs.getD i 0 ≠ 0
  qg : ∀ x ∈ s.q, s.gs.getD x.1.toNat 0 = 0

theorem getD_set (l : List Int) (i j : Nat) (v : Int) : (l.set i v).getD j 0 = if i = j ∧ i < l.length then v else l.getD j 0 := by
  simp only [List.getD_eq_getElem?_getD, List.getElem?_set]
  by_cases h : i = j
  · subst h
    by_cases h2 : i < l.length
    · simp [h2]
    · simp [h2]
  · simp [h]
theorem v3_at {s : St} (h : Inv s) (i : Nat) (hi : i < s.cs.length) : s.cs.getD i 0 = 0 ∨ s.cs.getD i 0 = 1 ∨ s.cs.getD i 0 = 2 := by
  have e : s.cs.getD i 0 = s.cs[i] := by simp [List.getD, hi]
  rw [e]; exact h.v3 _ (List.getElem_mem hi)
theorem gr_at {s : St} (h : Inv s) (t : Nat) (ht : t < 9) : 0 ≤ s.gs.getD t 0 ∧ s.gs.getD t 0 ≤ s.cs.length := h.ok.gift t ht

theorem Inv.new (n : Nat) (h : Ok { cs := List.replicate n 0, gs := List.replicate 9 0, q := [] }) : Inv { cs := List.replicate n 0, gs := List.replicate 9 0, q := [] } := by
  have hr : ∀ m t : Nat, (List.replicate m (0 : Int)).getD t 0 = 0 := by
    intro m t; rw [List.getD_eq_getElem?_getD, List.getElem?_replicate]; split <;> rfl
  have hg := hr 9
  have hc := hr n
  refine ⟨h, ?_, ?_, ?_, ?_, ?_, ?_, ?_⟩
  · intro x hx; rw [List.mem_replicate] at hx; exact .inl hx.2
  · intro t _ h0; simp only at h0; rw [hg] at h0; omega
  · intro i _ h0; simp only at h0; rw [hc] at h0; omega
  · intro t u _ _ h0; simp only at h0; rw [hg] at h0; omega
  · exact hg 0
  · intro h; exact absurd rfl h
  · intro x hx; cases hx

/-- A gift is taken. -/
theorem Inv.take {s : St} (h : Inv s) (t : Nat) (ht : t < 9) (hg : 0 < s.gs.getD t 0) : Inv { s with gs := s.gs.set t 0, cs := s.cs.set (s.gs.getD t 0 - 1).toNat 1 } := by
  have hr := gr_at h t ht
  have hl := h.ok.gl
  have h2 := h.g1 t ht hg
  refine ⟨(h.ok.setG t 0 ⟨by omega, by have := h.ok.len; omega⟩).setC _ 1, ?_, ?_, ?_, ?_, ?_, ?_, ?_⟩
  · intro x hx
    rcases List.mem_or_eq_of_mem_set hx with h' | h'
    · exact h.v3 x h'
    · exact .inr (.inl h')
  · intro u hu h0
    simp only [getD_set] at h0 ⊢
    by_cases e : t = u ∧ t < s.gs.length
    · rw [if_pos e] at h0; omega
    · rw [if_neg e] at h0 ⊢
      have hne : ¬ t = u := fun e' => e ⟨e', by omega⟩
      rw [if_neg (fun q => hne (h.g3 t u ht hu hg (by have := gr_at h u hu; omega)))]
      exact h.g1 u hu h0
  · intro i hi h0
    simp only [List.length_set] at hi
    simp only [getD_set] at h0 ⊢
    by_cases e : (s.gs.getD t 0 - 1).toNat = i ∧ (s.gs.getD t 0 - 1).toNat < s.cs.length
    · rw [if_pos e] at h0; omega
    · rw [if_neg e] at h0
      obtain ⟨u, hu1, hu2, hu3⟩ := h.g2 i hi h0
      refine ⟨u, hu1, hu2, ?_⟩
      rw [if_neg (fun q => e ⟨by rw [q.1, hu3]; omega, by rw [q.1, hu3]; omega⟩)]
      exact hu3
  · intro a b ha hb h0 hab
    simp only [getD_set] at h0 hab
    by_cases e : t = a ∧ t < s.gs.length
    · rw [if_pos e] at h0; omega
    · rw [if_neg e] at h0 hab
      by_cases e2 : t = b ∧ t < s.gs.length
      · rw [if_pos e2] at hab; omega
      · rw [if_neg e2] at hab
        exact h.g3 a b ha hb h0 hab
  · simp only [getD_set]; split; rfl; exact h.g0
  · intro hq i hi
    simp only [List.length_set] at hi
    simp only [getD_set]
    split
    · omega
    · exact h.qf hq i hi
  · intro x hx
    simp only [getD_set]
    split
    · rfl
    · exact h.qg x hx
/-- A free cell is taken. -/
theorem Inv.free {s : St} (h : Inv s) (i : Nat) (hi : i < s.cs.length) (h0 : s.cs.getD i 0 = 0) : Inv { s with cs := s.cs.set i 1 } := by
  refine ⟨h.ok.setC i 1, ?_, ?_, ?_, h.g3, h.g0, ?_, h.qg⟩
  · intro x hx
    rcases List.mem_or_eq_of_mem_set hx with h' | h'
    · exact h.v3 x h'
    · exact .inr (.inl h')
  · intro u hu hp
    have := h.g1 u hu hp
    simp only [getD_set]
    rw [if_neg (fun q => by rw [← q.1] at this; omega)]
    exact this
  · intro j hj h2
    simp only [List.length_set] at hj
    simp only [getD_set] at h2
    by_cases e : i = j ∧ i < s.cs.length
    · rw [if_pos e] at h2; omega
    · rw [if_neg e] at h2; exact h.g2 j hj h2
  · intro hq j hj
    simp only [List.length_set] at hj
    simp only [getD_set]
    split
    · omega
    · exact h.qf hq j hj
theorem Inv.queue {s : St} (h : Inv s) (t b : Int) (ht : 1 ≤ t ∧ t ≤ 8) (hb : -9223372036854775808 ≤ b ∧ b ≤ 9223372036854775807) (hw : waits s t = false) (hg : s.gs.getD t.toNat 0 = 0) (hf : ∀ i, i < s.cs.length → s.cs.getD i 0 ≠ 0) : Inv { s with q := s.q ++ [(t, b)] } := by
  refine ⟨h.ok.addQ t b ht hb hw, h.v3, h.g1, h.g2, h.g3, h.g0, fun _ => hf, ?_⟩
  intro x hx
  rcases List.mem_append.1 hx with h' | h'
  · exact h.qg x h'
  · simp at h'; subst h'; exact hg
theorem idx0_lt {s : St} (h : 0 ≤ idx 0 s.cs) : (idx 0 s.cs).toNat < s.cs.length ∧ s.cs.getD (idx 0 s.cs).toNat 0 = 0 := by
  unfold idx at h ⊢
  by_cases hm : (0 : Int) ∈ s.cs
  · rw [if_pos hm]
    have hl := List.idxOf_lt_length_of_mem hm
    refine ⟨by omega, ?_⟩
    rw [Int.toNat_natCast]
    have := List.getElem_idxOf hl
    simp [List.getD, hl, this]
  · rw [if_neg hm] at h; omega
theorem idx0_none {s : St} (h : ¬ 0 ≤ idx 0 s.cs) : ∀ i, i < s.cs.length → s.cs.getD i 0 ≠ 0 := by
  intro i hi e
  unfold idx at h
  have hm : (0 : Int) ∈ s.cs := by
    have : s.cs.getD i 0 = s.cs[i] := by simp [List.getD, hi]
    rw [this] at e; rw [← e]; exact List.getElem_mem hi
  rw [if_pos hm] at h; omega
theorem badT_no {s : St} {t : Int} (h : badT s t = false) : 1 ≤ t ∧ t ≤ 8 ∧ waits s t = false := by
  unfold badT at h
  simp only [Bool.or_eq_false_iff, decide_eq_false_iff_not] at h
  exact ⟨by omega, by omega, h.2⟩
theorem Inv.ask {s : St} (h : Inv s) (t b : Int) (hb : -9223372036854775808 ≤ b ∧ b ≤ 9223372036854775807) : Inv (ask s t b) := by
  unfold Ap.ask
  cases hbt : badT s t
  · obtain ⟨h1, h8, hw⟩ := badT_no hbt
    simp only [Bool.false_eq_true, if_false]
    by_cases hg : 0 < gift s t
    · rw [if_pos hg]; exact h.take t.toNat (by omega) hg
    · rw [if_neg hg]
      by_cases hi : 0 ≤ idx 0 s.cs
      · rw [if_pos hi]; have := idx0_lt hi; exact h.free _ this.1 this.2
      · rw [if_neg hi]
        refine h.queue t b ⟨h1, h8⟩ hb hw ?_ (idx0_none hi)
        have := gr_at h t.toNat (by omega)
        unfold gift at hg; omega
  · simp only [if_true]; exact h
theorem Inv.finish {s : St} (h : Inv s) (c f : Int) : Inv (finish s c f) := by
  unfold Ap.finish
  split
  · refine ⟨h.ok.sub List.filter_sublist, h.v3, h.g1, h.g2, h.g3, h.g0, fun hq => h.qf (fun e => hq (by simp [e])), fun x hx => h.qg x (List.mem_filter.1 hx).1⟩
  · exact h
theorem Inv.back {s : St} (h : Inv s) (c : Int) : Inv (back s c) := by
  unfold Ap.back
  cases hb : badC s c
  · simp only [Bool.false_eq_true, if_false]
    have hc : ∃ n : Nat, c = n ∧ n < s.cs.length ∧ s.cs.getD n 0 = 1 := by
      unfold badC at hb
      simp only [Bool.or_eq_false_iff, decide_eq_false_iff_not, bne_eq_false_iff_eq] at hb
      obtain ⟨⟨h1, h2⟩, h3⟩ := hb
      obtain ⟨n, rfl⟩ := Int.eq_ofNat_of_zero_le (show 0 ≤ c by omega)
      exact ⟨n, rfl, by omega, by simpa using h3⟩
    obtain ⟨n, rfl, hn, h1⟩ := hc
    rw [Int.toNat_natCast]
    cases hq : s.q with
    | nil =>
      simp only [List.isEmpty_nil, if_true]
      have hi : Inv { s with cs := s.cs.set n 0 } := by
        refine ⟨h.ok.setC n 0, ?_, ?_, ?_, h.g3, h.g0, fun hq' => absurd hq hq', h.qg⟩
        · intro x hx
          rcases List.mem_or_eq_of_mem_set hx with h' | h'
          · exact h.v3 x h'
          · exact .inl h'
        · intro u hu hp
          have := h.g1 u hu hp
          simp only [getD_set]
          rw [if_neg (fun q => by rw [← q.1] at this; omega)]
          exact this
        · intro j hj h2
          simp only [List.length_set] at hj
          simp only [getD_set] at h2
          by_cases e : n = j ∧ n < s.cs.length
          · rw [if_pos e] at h2; omega
          · rw [if_neg e] at h2; exact h.g2 j hj h2
      rw [← hq]; exact hi
    | cons x q' =>
      obtain ⟨t, b⟩ := x
      simp only [List.isEmpty_cons, Bool.false_eq_true, if_false, first, hq, List.headD_cons, List.tail_cons]
      have htt := h.ok.qt (t, b) (by rw [hq]; simp)
      have htg := h.qg (t, b) (by rw [hq]; simp)
      have hnd := h.ok.nd
      rw [hq] at hnd
      have hfree := h.qf (by rw [hq]; simp)
      simp only at htt htg
      have hgl := h.ok.gl
      refine ⟨((h.ok.setC n 2).setG t.toNat (n + 1) ⟨by omega, by simp; omega⟩).sub (q' := q') (by simp only [hq]; exact List.sublist_cons_self _ _), ?_, ?_, ?_, ?_, ?_, ?_, ?_⟩
      · intro x hx
        rcases List.mem_or_eq_of_mem_set hx with h' | h'
        · exact h.v3 x h'
        · exact .inr (.inr h')
      · intro u hu hp
        simp only [getD_set] at hp ⊢
        by_cases e : t.toNat = u ∧ t.toNat < s.gs.length
        · rw [if_pos e] at hp ⊢
          rw [if_pos ⟨by omega, by omega⟩]
        · rw [if_neg e] at hp ⊢
          have := h.g1 u hu hp
          rw [if_neg (fun q => by rw [← q.1] at this; omega)]
          exact this
      · intro j hj h2
        simp only [List.length_set] at hj
        simp only [getD_set] at h2 ⊢
        by_cases e : n = j ∧ n < s.cs.length
        · exact ⟨t.toNat, by omega, by omega, by rw [if_pos ⟨rfl, by omega⟩, e.1]⟩
        · rw [if_neg e] at h2
          obtain ⟨u, k1, k2, k3⟩ := h.g2 j hj h2
          refine ⟨u, k1, k2, ?_⟩
          rw [if_neg (fun q => by rw [← q.1, htg] at k3; omega)]
          exact k3
      · intro a c' ha hc hp hac
        simp only [getD_set] at hp hac
        by_cases e : t.toNat = a ∧ t.toNat < s.gs.length
        · rw [if_pos e] at hp hac
          by_cases e2 : t.toNat = c' ∧ t.toNat < s.gs.length
          · omega
          · rw [if_neg e2] at hac
            have := h.g1 c' hc (by omega)
            rw [← hac] at this
            rw [show ((n : Int) + 1 - 1).toNat = n by omega] at this
            omega
        · rw [if_neg e] at hp hac
          by_cases e2 : t.toNat = c' ∧ t.toNat < s.gs.length
          · rw [if_pos e2] at hac
            have := h.g1 a ha hp
            rw [hac, show ((n : Int) + 1 - 1).toNat = n by omega] at this
            omega
          · rw [if_neg e2] at hac
            exact h.g3 a c' ha hc hp hac
      · simp only [getD_set]; rw [if_neg (by omega)]; exact h.g0
      · intro _ j hj
        simp only [List.length_set] at hj
        simp only [getD_set]
        split
        · omega
        · exact hfree j hj
      · intro x hx
        simp only [getD_set]
        have hne : x.1 ≠ t := by
          simp only [List.map_cons, List.nodup_cons, List.mem_map, not_exists, not_and] at hnd
          exact hnd.1 x hx
        have hx8 := h.ok.qt x (by rw [hq]; simp [hx])
        rw [if_neg (by omega)]
        exact h.qg x (by rw [hq]; simp [hx])
  · simp only [if_true]; exact h
end Go.Proofs.Ytdncodandmjknaa.Ap
