/-
  PLAIN LAWS (no program): graph.Order goes by distance, graph.far is the distance, graph.Path is a shortest way.
-/
import Derived.Test.YtggijcebobjghaaDoorQGraph12
import Derived.Test.YtggijcebobjghaaDoorQJReachP
import Derived.Test.YtggijcebobjghaaDoorQBfsP
set_option linter.unusedVariables false
set_option linter.unusedSimpArgs false
namespace Go.Proofs.YtggijcebobjghaaDoor.Pa
open Go.RowKit Go.Proofs.YtggijcebobjghaaDoor.Wd Go.Proofs.YtggijcebobjghaaDoor.Hp Go.Proofs.YtggijcebobjghaaDoor.Gr Go.Proofs.YtggijcebobjghaaDoor.Gp Go.Proofs.YtggijcebobjghaaDoor.Bf
/-- The cells that words name. -/
def refs (ws : List Int) : List Nat := ws.filterMap (fun w => if isRef w = true then some (cellN w).toNat else none)
theorem refs_mem {ws : List Int} {c : Nat} : c ∈ refs ws ↔ ∃ v ∈ ws, isRef v = true ∧ (cellN v).toNat = c := by
  unfold refs
  rw [List.mem_filterMap]
  refine ⟨fun ⟨v, h1, h2⟩ => ?_, fun ⟨v, h1, h2, h3⟩ => ⟨v, h1, by rw [if_pos h2, h3]⟩⟩
  split at h2
  · next hr => exact ⟨v, h1, hr, by simpa using h2⟩
  · cases h2
theorem eachW_refs {α : Type} (f : α → Nat → α) : ∀ (l : List Int) (s : α), eachW f s l = (refs l).foldl f s
  | [], s => rfl
  | x :: l, s => by
    have hE : eachW f s (x :: l) = eachW f (if isRef x then f s (cellN x).toNat else s) l := rfl
    rw [hE, eachW_refs f l]
    cases hx : isRef x <;> simp [refs, hx]
def nf (h : List Cel) (c : Nat) : List Nat := refs (wordsOf h c)
def nr (h : List Cel) (c : Nat) : List Nat := (fromK h h.length).getD c []
theorem refs_lt {n : Nat} {ws : List Int} (h : ∀ v ∈ ws, isRef v = true → (cellN v).toNat < n) : ∀ c ∈ refs ws, c < n := by
  intro c hc
  obtain ⟨v, h1, h2, rfl⟩ := refs_mem.1 hc
  exact h v h1 h2
theorem nf_lt {h : List Cel} {ws : List Int} (hm : may h ws = true) (p : Nat) (hp : p < h.length) : ∀ c ∈ nf h p, c < h.length := refs_lt (may_cells hm p hp)
theorem nf_none {h : List Cel} {p : Nat} (hp : ¬ p < h.length) : nf h p = [] := by
  have : h.getD p z = z := by rw [List.getD_eq_getElem?_getD, List.getElem?_eq_none (by omega)]; rfl
  unfold nf wordsOf
  rw [this]
  rfl
/-- What order meets is what the walk by breadth meets, as it meets it. -/
theorem meet_bM {n : Nat} {s : St} (hi : Inv n s) {t : BS} (ht : s.2 = t.1) (r c : Nat) (hc : c < n) : (meet s c).2 = (bM r t c).1 := by
  unfold meet bM
  rw [← ht]
  by_cases e : c ∈ s.2
  · rw [if_pos e, if_pos ((hi.mem c).1 e).2]; exact ht
  · have : ¬ s.1.getD c true = true := fun h => e ((hi.mem c).2 ⟨hc, h⟩)
    rw [if_neg e, if_neg this]
theorem meets_bF {n : Nat} (r : Nat) : ∀ (cs : List Nat) {s : St} {t : BS}, Inv n s → s.2 = t.1 → (∀ c ∈ cs, c < n) → Inv n (cs.foldl meet s) ∧ (cs.foldl meet s).2 = (bF r t cs).1
  | [], s, t, hi, ht, _ => ⟨hi, ht⟩
  | c :: cs, s, t, hi, ht, hc => meets_bF r cs (s := meet s c) (t := bM r t c) (hi.meet c (hc c (by simp))) (meet_bM hi ht r c (hc c (by simp))) (fun x hx => hc x (by simp [hx]))
theorem orderL_bL {h : List Cel} {ws : List Int} (hm : may h ws = true) : ∀ (k i : Nat) (s : St) (t : BS), Inv h.length s → s.2 = t.1 → (orderL h k i s).2 = (bL (nf h) k i t).1
  | 0, i, s, t, _, ht => ht
  | k + 1, i, s, t, hi, ht => by
    rw [orderL, bL, ← ht]
    split
    · next hl =>
      have hm2 : s.2.getD i 0 ∈ s.2 := Bf.getD_in _ _ hl
      have hlt := ((hi.mem _).1 hm2).1
      have := meets_bF (n := h.length) (t.2 (s.2.getD i 0) + 1) (nf h (s.2.getD i 0)) hi ht (nf_lt hm _ hlt)
      refine orderL_bL hm k (i + 1) _ _ ?_ ?_
      · rw [named, eachW_refs]; exact this.1
      · rw [named, eachW_refs]; exact this.2
    · exact ht
theorem order_bfs {h : List Cel} {ws : List Int} (hm : may h ws = true) : (order h ws).2 = (bfs (nf h) (refs ws) h.length).1 := by
  unfold order bfs
  have := meets_bF (n := h.length) 0 (refs ws) (Inv.start h.length) (t := ([], fun _ => 0)) rfl (refs_lt (may_roots hm))
  refine orderL_bL hm _ _ _ _ ?_ ?_
  · rw [eachW_refs]; exact this.1
  · rw [eachW_refs]; exact this.2
theorem bfsF_ok {h : List Cel} {ws : List Int} (hm : may h ws = true) : BOk (nf h) (refs ws) (bfs (nf h) (refs ws) h.length) :=
  bfs_ok (refs_lt (may_roots hm)) (nf_lt hm)
/-- Who names whom. -/
theorem push_len (k : Nat) (fr : List (List Nat)) (c : Nat) : (push k fr c).length = fr.length := by simp [push]
theorem pushes_mem (k : Nat) : ∀ (cs : List Nat) (fr : List (List Nat)), (∀ c ∈ cs, c < fr.length) → (cs.foldl (push k) fr).length = fr.length ∧ ∀ p c, p ∈ (cs.foldl (push k) fr).getD c [] ↔ p ∈ fr.getD c [] ∨ (p = k ∧ c ∈ cs)
  | [], fr, _ => ⟨rfl, by simp⟩
  | c0 :: cs, fr, hc => by
    obtain ⟨h1, h2⟩ := pushes_mem k cs (push k fr c0) (fun c hx => by rw [push_len]; exact hc c (by simp [hx]))
    rw [List.foldl_cons]
    refine ⟨by rw [h1, push_len], fun p c => ?_⟩
    rw [h2, push_at _ _ _ _ (hc c0 (by simp))]
    by_cases e : c = c0
    · subst e
      rw [if_pos rfl, List.mem_append, List.mem_singleton]
      constructor
      · rintro ((h | h) | h)
        · exact .inl h
        · exact .inr ⟨h, by simp⟩
        · exact .inr ⟨h.1, by simp⟩
      · rintro (h | h)
        · exact .inl (.inl h)
        · exact .inl (.inr h.1)
    · rw [if_neg e]; simp [e]
theorem fromK_iff {h : List Cel} {ws : List Int} (hm : may h ws = true) : ∀ k, k ≤ h.length → (fromK h k).length = h.length ∧ ∀ p c, p ∈ (fromK h k).getD c [] ↔ p < k ∧ c ∈ nf h p
  | 0, _ => ⟨by simp [fromK], fun p c => by
      simp only [fromK, List.getD_eq_getElem?_getD, List.getElem?_replicate]
      split <;> simp⟩
  | k + 1, hk => by
    obtain ⟨h1, h2⟩ := fromK_iff hm k (by omega)
    obtain ⟨g1, g2⟩ := pushes_mem k (nf h k) (fromK h k) (by rw [h1]; exact nf_lt hm k (by omega))
    rw [fromK, named, eachW_refs]
    refine ⟨g1.trans h1, fun p c => ?_⟩
    show p ∈ ((nf h k).foldl (push k) (fromK h k)).getD c [] ↔ _
    rw [g2, h2]
    constructor
    · rintro (⟨a, b⟩ | ⟨rfl, b⟩)
      · exact ⟨by omega, b⟩
      · exact ⟨by omega, b⟩
    · rintro ⟨a, b⟩
      by_cases e : p = k
      · subst e; exact .inr ⟨rfl, b⟩
      · exact .inl ⟨by omega, b⟩
theorem nr_iff {h : List Cel} {ws : List Int} (hm : may h ws = true) (p c : Nat) : p ∈ nr h c ↔ c ∈ nf h p := by
  unfold nr
  rw [(fromK_iff hm h.length (Nat.le_refl _)).2]
  refine ⟨fun ⟨_, b⟩ => b, fun b => ⟨?_, b⟩⟩
  by_cases e : p < h.length
  · exact e
  · rw [nf_none e] at b; cases b
theorem nr_lt {h : List Cel} {ws : List Int} (hm : may h ws = true) (p : Nat) (hp : p < h.length) : ∀ c ∈ nr h p, c < h.length := by
  intro c hc
  rw [nr_iff hm] at hc
  by_cases e : c < h.length
  · exact e
  · rw [nf_none e] at hc; cases hc
/-- far is that walk's numbers. -/
structure SimF (n : Nat) (s : FSt) (t : BS) : Prop where
  inv : FInv n s
  row : s.2 = t.1
  num : ∀ c ∈ t.1, s.1.getD c 0 = (t.2 c : Int)
theorem SimF.step {n r m : Nat} {s : FSt} {t : BS} (h : SimF n s t) (hr : r ∈ t.1) (hm : t.2 r + 1 = m) (c : Nat) (hc : c < n) : SimF n (farC r s c) (bM m t c) ∧ r ∈ (bM m t c).1 ∧ (bM m t c).2 r + 1 = m := by
  have h1 := h.inv.step (by rw [h.row]; exact hr) c hc
  have hnum := h.num r hr
  have hl := h.inv.len
  by_cases e : c ∈ t.1
  · have e2 : ¬ s.1.getD c 0 < 0 := by rw [h.num c e]; omega
    have e3 : farC r s c = s := by unfold farC; rw [if_neg e2]
    have e4 : bM m t c = t := by unfold bM; rw [if_pos e]
    rw [e3, e4]; exact ⟨h, hr, hm⟩
  · have e2 : s.1.getD c 0 < 0 := by
      have : ¬ (c < n ∧ 0 ≤ s.1.getD c (-1)) := fun hx => e (by rw [← h.row]; exact (h.inv.mem c).2 hx)
      rw [getD_d _ _ _ (-1) (by omega)]
      omega
    have e3 : farC r s c = (s.1.set c (s.1.getD r 0 + 1), s.2 ++ [c]) := by unfold farC; rw [if_pos e2]
    have e4 : bM m t c = (t.1 ++ [c], fun x => if x = c then m else t.2 x) := by unfold bM; rw [if_neg e]
    have hne : ∀ x ∈ t.1, x ≠ c := fun x hx he => e (he ▸ hx)
    refine ⟨⟨h1.1, by rw [e3, e4, h.row], fun x hx => ?_⟩, by rw [e4]; simp [hr], by rw [e4]; simp [hne r hr, hm]⟩
    rw [e4] at hx
    rw [e3, e4]
    simp only
    rw [getD_set _ _ _ _ _ (by omega)]
    simp at hx
    rcases hx with hx | rfl
    · rw [if_neg (hne x hx), if_neg (hne x hx)]; exact h.num x hx
    · rw [if_pos rfl, if_pos rfl, hnum]; omega
theorem SimF.many {n r m : Nat} : ∀ (cs : List Nat) {s : FSt} {t : BS}, SimF n s t → r ∈ t.1 → t.2 r + 1 = m → (∀ c ∈ cs, c < n) → SimF n (farIn r s cs) (bF m t cs)
  | [], s, t, h, _, _, _ => h
  | c :: cs, s, t, h, hr, hm, hc => by
    obtain ⟨h1, h2, h3⟩ := h.step hr hm c (hc c (by simp))
    exact SimF.many cs h1 h2 h3 (fun x hx => hc x (by simp [hx]))
theorem SimF.loop {h : List Cel} {ws : List Int} (hm : may h ws = true) : ∀ (k i : Nat) (s : FSt) (t : BS), SimF h.length s t → SimF h.length (farL (fromK h h.length) k i s) (bL (nr h) k i t)
  | 0, i, s, t, hs => hs
  | k + 1, i, s, t, hs => by
    rw [farL, bL, ← hs.row]
    split
    · next hl =>
      have hm2 : s.2.getD i 0 ∈ s.2 := Bf.getD_in _ _ hl
      have hlt := ((hs.inv.mem _).1 hm2).1
      exact SimF.loop hm k (i + 1) _ _ (hs.many _ (by rw [← hs.row]; exact hm2) rfl (nr_lt hm _ hlt))
    · exact hs
theorem far_sim {h : List Cel} {ws : List Int} (hm : may h ws = true) (to : Nat) (hto : to < h.length) : SimF h.length (farS h to) (bfs (nr h) [to] h.length) := by
  refine SimF.loop hm _ _ _ _ ⟨FInv.start _ _ hto, by simp [far0, b0, bF, bM], fun c hc => ?_⟩
  simp [b0, bF, bM] at hc
  subst hc
  simp [far0, b0, bF, bM, List.getD_eq_getElem?_getD, hto]
theorem bfsR_ok {h : List Cel} {ws : List Int} (hm : may h ws = true) (to : Nat) (hto : to < h.length) : BOk (nr h) [to] (bfs (nr h) [to] h.length) :=
  bfs_ok (fun c hc => by simp at hc; omega) (nr_lt hm)
theorem far_way {h : List Cel} {ws : List Int} (hm : may h ws = true) {to : Nat} (hto : to < h.length) {c : Nat} (hc : c < h.length) (h0 : 0 ≤ (far h to).getD c 0) : Ds (nr h) [to] c ((far h to).getD c 0).toNat := by
  have S := far_sim hm to hto
  have e := getD_d (far h to) c 0 (-1) (by rw [show (far h to).length = h.length from S.inv.len]; exact hc)
  have hi := (S.inv.mem c).2 ⟨hc, by change 0 ≤ (far h to).getD c (-1); rw [← e]; exact h0⟩
  rw [S.row] at hi
  have h1 := (bfsR_ok hm to hto).snd c hi
  have h2 : (far h to).getD c 0 = _ := S.num c hi
  rw [h2]; simpa using h1
theorem far_le {h : List Cel} {ws : List Int} (hm : may h ws = true) {to : Nat} (hto : to < h.length) {c k : Nat} (hd : Ds (nr h) [to] c k) : 0 ≤ (far h to).getD c 0 ∧ (far h to).getD c 0 ≤ k := by
  have S := far_sim hm to hto
  obtain ⟨h1, h2⟩ := (bfsR_ok hm to hto).cpl c k hd
  have h3 : (far h to).getD c 0 = _ := S.num c h1
  omega
end Go.Proofs.YtggijcebobjghaaDoor.Pa
