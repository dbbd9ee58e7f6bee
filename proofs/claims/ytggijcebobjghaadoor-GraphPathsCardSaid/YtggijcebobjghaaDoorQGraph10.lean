/-
  A least way as a plain function (no program): it ends.
-/
import Derived.Test.YtggijcebobjghaaDoorQGraph9
set_option linter.unusedVariables false
set_option linter.unusedSimpArgs false
set_option maxRecDepth 100000
namespace Go.Proofs.YtggijcebobjghaaDoor.Gr
open Go.RowKit Go.Proofs.YtggijcebobjghaaDoor.Wd Go.Proofs.YtggijcebobjghaaDoor.Hp Go.Proofs.YtggijcebobjghaaDoor.Gp Go.Proofs.YtggijcebobjghaaDoor.Sm

def better (st : List Int) (b : Int) (c : Nat) : Int :=
  if 0 ≤ st.getD c 0 ∧ (b < 0 ∨ st.getD c 0 < st.getD b.toNat 0 ∨ (st.getD c 0 = st.getD b.toNat 0 ∧ (c : Int) < b)) then c else b
def pathL (h : List Cel) (st : List Int) (to : Nat) : Nat → Int → List Int → List Int
  | 0, _, p => p
  | k + 1, b, p => if b = to then p else pathL h st to k (named h (better st) (-1) b.toNat) (p ++ [named h (better st) (-1) b.toNat])
def best (h : List Cel) (to : Nat) (ws : List Int) : Int := eachW (better (far h to)) (-1) ws
def path (h : List Cel) (to : Nat) (ws : List Int) : List Int := pathL h (far h to) to h.length (best h to ws) [best h to ws]

/-- Who names it, one step nearer. -/
def FNear (fr : List (List Nat)) (to : Nat) (s : FSt) : Prop := ∀ c, 0 ≤ s.1.getD c (-1) → c = to ∨ ∃ r, 0 ≤ s.1.getD r (-1) ∧ s.1.getD r (-1) < s.1.getD c (-1) ∧ c ∈ fr.getD r []
theorem FNear.start (fr : List (List Nat)) (n to : Nat) (h : to < n) : FNear fr to (far0 n to) := by
  intro c hc
  have hl : (List.replicate n (-1 : Int)).length = n := by simp
  have hg : ∀ c, (List.replicate n (-1 : Int)).getD c (-1) = -1 := fun c => by
    simp only [List.getD_eq_getElem?_getD, List.getElem?_replicate]; split <;> rfl
  simp only [far0] at hc
  rw [getD_set _ _ _ _ _ (by rw [hl]; exact h), hg] at hc
  split at hc
  · next e => exact .inl e
  · omega
theorem FNear.step {fr : List (List Nat)} {n to r : Nat} {s : FSt} (hi : FInv n s) (h : FNear fr to s) (hr : r ∈ s.2) (c : Nat) (hc : c < n) (hcr : c ∈ fr.getD r []) : FNear fr to (farC r s c) := by
  unfold farC
  have hrn := (hi.mem r).1 hr
  split
  · next hlt =>
    have hlt' : s.1.getD c (-1) < 0 := by rw [getD_d _ _ _ 0 (by rw [hi.len]; exact hc)]; exact hlt
    have hrd : s.1.getD r 0 = s.1.getD r (-1) := getD_d _ _ _ _ (by rw [hi.len]; exact hrn.1)
    have hg : ∀ x, (s.1.set c (s.1.getD r 0 + 1)).getD x (-1) = if x = c then s.1.getD r 0 + 1 else s.1.getD x (-1) := fun x => getD_set _ _ _ _ _ (by rw [hi.len]; exact hc)
    have hne : ∀ x, 0 ≤ s.1.getD x (-1) → x ≠ c := fun x hx e => by subst e; omega
    intro x hx
    simp only [hg] at hx ⊢
    by_cases e : x = c
    · subst e
      refine .inr ⟨r, ?_, ?_, hcr⟩
      · rw [if_neg (hne r hrn.2)]; exact hrn.2
      · rw [if_neg (hne r hrn.2), if_pos rfl]; omega
    · rw [if_neg e] at hx ⊢
      rcases h x hx with h1 | ⟨r', h1, h2, h3⟩
      · exact .inl h1
      · refine .inr ⟨r', ?_, ?_, h3⟩
        · rw [if_neg (hne r' h1)]; exact h1
        · rw [if_neg (hne r' h1)]; exact h2
  · exact h
theorem FNear.many {fr : List (List Nat)} {n to r : Nat} : ∀ (cs : List Nat) {s : FSt}, FInv n s → FNear fr to s → r ∈ s.2 → (∀ c ∈ cs, c < n ∧ c ∈ fr.getD r []) → FNear fr to (farIn r s cs)
  | [], s, _, h, _, _ => h
  | c :: cs, s, hi, h, hr, hc => by
    have h1 := hi.step hr c (hc c (by simp)).1
    exact FNear.many cs h1.1 (h.step hi hr c (hc c (by simp)).1 (hc c (by simp)).2) (h1.2 r hr) (fun x hx => hc x (by simp [hx]))
theorem farL_both {fr : List (List Nat)} {n to : Nat} (hfr : ∀ j, ∀ x ∈ fr.getD j [], x < n) : ∀ (k i : Nat) (s : FSt), FInv n s → FNear fr to s → FInv n (farL fr k i s) ∧ FNear fr to (farL fr k i s)
  | 0, _, s, h1, h2 => ⟨h1, h2⟩
  | k + 1, i, s, h1, h2 => by
    rw [farL]
    split
    · next hi =>
      have hm := h1.at_mem i hi
      exact farL_both hfr k (i + 1) _ (h1.many _ hm (fun c hc => hfr _ c hc)).1 (h2.many _ h1 hm (fun c hc => ⟨hfr _ c hc, hc⟩))
    · exact ⟨h1, h2⟩
/-- A zero stays. -/
theorem farC_to {r to c : Nat} {s : FSt} (h : s.1.getD to 0 = 0) (hr : 0 ≤ s.1.getD r 0) : (farC r s c).1.getD to 0 = 0 := by
  unfold farC
  split
  · next hlt =>
    have e : to ≠ c := fun e => by subst e; omega
    simp only [List.getD_eq_getElem?_getD, List.getElem?_set_ne (Ne.symm e)] at h ⊢
    exact h
  · exact h
theorem fromK_names (h : List Cel) : ∀ k c, ∀ x ∈ (fromK h k).getD c [], ∃ v ∈ wordsOf h x, isRef v = true ∧ (cellN v).toNat = c
  | 0, c, x, hx => by
    simp only [fromK, List.getD_eq_getElem?_getD, List.getElem?_replicate] at hx
    split at hx <;> simp at hx
  | k + 1, c, x, hx => by
    have := each_all (P := fun fr => ∀ j, ∀ x ∈ fr.getD j [], ∃ v ∈ wordsOf h x, isRef v = true ∧ (cellN v).toNat = j) (ok := fun c => ∃ v ∈ wordsOf h k, isRef v = true ∧ (cellN v).toNat = c) (f := push k)
      (fun s c h1 h2 j x hx => by
        by_cases hc : c < s.length
        · rw [push_at _ _ _ _ hc] at hx
          split at hx
          · next e =>
            subst e
            simp only [List.mem_append, List.mem_singleton] at hx
            rcases hx with hx | rfl
            · exact h1 j x hx
            · exact h2
          · exact h1 j x hx
        · unfold push at hx
          rw [List.set_eq_of_length_le (by omega)] at hx
          exact h1 j x hx) (wordsOf h k) (fromK h k) (fromK_names h k) (fun v hv hr => ⟨v, hv, hr, rfl⟩)
    exact this c x hx
theorem farIn_to {r to : Nat} {n : Nat} : ∀ (cs : List Nat) {s : FSt}, FInv n s → r ∈ s.2 → (∀ c ∈ cs, c < n) → s.1.getD to 0 = 0 → (farIn r s cs).1.getD to 0 = 0
  | [], s, _, _, _, h => h
  | c :: cs, s, hi, hr, hc, h => by
    have h1 := hi.step hr c (hc c (by simp))
    have hrn := (hi.mem r).1 hr
    exact farIn_to cs h1.1 (h1.2 r hr) (fun x hx => hc x (by simp [hx])) (farC_to h (by rw [getD_d _ _ _ (-1) (by rw [hi.len]; exact hrn.1)]; exact hrn.2))
theorem farL_to {fr : List (List Nat)} {n to : Nat} (hfr : ∀ j, ∀ x ∈ fr.getD j [], x < n) : ∀ (k i : Nat) (s : FSt), FInv n s → s.1.getD to 0 = 0 → (farL fr k i s).1.getD to 0 = 0
  | 0, _, s, _, h => h
  | k + 1, i, s, h1, h => by
    rw [farL]
    split
    · next hi =>
      have hm := h1.at_mem i hi
      exact farL_to hfr k (i + 1) _ (h1.many _ hm (fun c hc => hfr _ c hc)).1 (farIn_to _ h1 hm (fun c hc => hfr _ c hc) h)
    · exact h
/-- What is known of far. -/
structure FarOk (h : List Cel) (to : Nat) (st : List Int) : Prop where
  len : st.length = h.length
  lt : ∀ c, st.getD c 0 < h.length
  ge : ∀ c, -1 ≤ st.getD c 0
  zero : st.getD to 0 = 0
  near : ∀ c, c < h.length → 0 ≤ st.getD c 0 → c = to ∨ ∃ v ∈ wordsOf h c, isRef v = true ∧ (cellN v).toNat < h.length ∧ 0 ≤ st.getD (cellN v).toNat 0 ∧ st.getD (cellN v).toNat 0 < st.getD c 0
theorem far_ok (h : List Cel) (to : Nat) (hto : to < h.length) : FarOk h to (far h to) := by
  have hfr : ∀ j, ∀ x ∈ (fromK h h.length).getD j [], x < h.length := fromK_mem h h.length
  obtain ⟨h1, h2⟩ := farL_both (to := to) hfr (h.length + 1) 0 (far0 h.length to) (FInv.start _ _ hto) (FNear.start _ _ _ hto)
  have h3 := farL_to (to := to) hfr (h.length + 1) 0 (far0 h.length to) (FInv.start _ _ hto) (by simp [far0, List.getD_eq_getElem?_getD, hto])
  change FInv h.length (farS h to) at h1
  change FNear _ to (farS h to) at h2
  change (far h to).getD to 0 = 0 at h3
  have hl : (far h to).length = h.length := h1.len
  have hd : ∀ c, c < h.length → (far h to).getD c 0 = (farS h to).1.getD c (-1) := fun c hc => getD_d _ _ _ _ (by rw [hl]; exact hc)
  have ho : ∀ c, ¬ c < h.length → (far h to).getD c 0 = 0 := fun c hc => by rw [List.getD_eq_getElem?_getD, List.getElem?_eq_none (by omega)]; rfl
  have hle := h1.le
  refine ⟨hl, fun c => ?_, fun c => ?_, h3, fun c hc h0 => ?_⟩
  · by_cases hc : c < h.length
    · rw [hd c hc]; have := h1.lt c; omega
    · rw [ho c hc]; omega
  · by_cases hc : c < h.length
    · rw [hd c hc]; exact h1.ge c
    · rw [ho c hc]; omega
  · rw [hd c hc] at h0 ⊢
    rcases h2 c h0 with e | ⟨r, r1, r2, r3⟩
    · exact .inl e
    · obtain ⟨v, v1, v2, v3⟩ := fromK_names h h.length r c r3
      have hr : r < h.length := by
        rcases Nat.lt_or_ge r h.length with h5 | h5
        · exact h5
        · rw [List.getD_eq_getElem?_getD, List.getElem?_eq_none (by rw [h1.len]; exact h5)] at r1; simp at r1
      refine .inr ⟨v, v1, v2, ?_⟩
      rw [v3, hd r hr]
      exact ⟨hr, r1, r2⟩
theorem better_ok (st : List Int) (b : Int) (c : Nat) : (0 ≤ b → 0 ≤ better st b c ∧ st.getD (better st b c).toNat 0 ≤ st.getD b.toNat 0) ∧ (0 ≤ st.getD c 0 → 0 ≤ better st b c ∧ st.getD (better st b c).toNat 0 ≤ st.getD c 0) := by
  unfold better
  split
  · next h =>
    rw [Int.toNat_natCast]
    exact ⟨fun hb => ⟨by omega, by omega⟩, fun _ => ⟨by omega, Int.le_refl _⟩⟩
  · next h =>
    refine ⟨fun hb => ⟨hb, Int.le_refl _⟩, fun hc => ?_⟩
    have hb : ¬ b < 0 := fun hb => h ⟨hc, .inl hb⟩
    have h2 : ¬ st.getD c 0 < st.getD b.toNat 0 := fun h2 => h ⟨hc, .inr (.inl h2)⟩
    exact ⟨by omega, by omega⟩
theorem eachW_better (st : List Int) : ∀ (l : List Int) (b : Int), (0 ≤ b → 0 ≤ eachW (better st) b l ∧ st.getD (eachW (better st) b l).toNat 0 ≤ st.getD b.toNat 0) ∧ ∀ v ∈ l, isRef v = true → 0 ≤ st.getD (cellN v).toNat 0 → 0 ≤ eachW (better st) b l ∧ st.getD (eachW (better st) b l).toNat 0 ≤ st.getD (cellN v).toNat 0
  | [], b => ⟨fun h => ⟨h, Int.le_refl _⟩, fun v hv => by cases hv⟩
  | x :: l, b => by
    have hE : eachW (better st) b (x :: l) = eachW (better st) (if isRef x then better st b (cellN x).toNat else b) l := rfl
    rw [hE]
    have ih := eachW_better st l (if isRef x then better st b (cellN x).toNat else b)
    have hb := better_ok st b (cellN x).toNat
    refine ⟨fun h0 => ?_, fun v hv hr h0 => ?_⟩
    · cases hx : isRef x
      · rw [hx] at ih; exact ih.1 h0
      · rw [hx] at ih
        have h1 := hb.1 h0
        have h2 := ih.1 h1.1
        exact ⟨h2.1, by simp only [if_true] at h2 ⊢; omega⟩
    · rcases List.mem_cons.1 hv with rfl | hv
      · rw [hr] at ih ⊢
        have h1 := hb.2 h0
        have h2 := ih.1 h1.1
        exact ⟨h2.1, by simp only [if_true] at h2 ⊢; omega⟩
      · exact ih.2 v hv hr h0
/-- What better leaves: none, or a cell from which it goes on. -/
def BOk (n : Nat) (st : List Int) (b : Int) : Prop := b = -1 ∨ (0 ≤ b ∧ b < n ∧ 0 ≤ st.getD b.toNat 0)
theorem BOk.step {n : Nat} {st : List Int} {b : Int} (h : BOk n st b) (c : Nat) (hc : c < n) : BOk n st (better st b c) := by
  unfold better
  split
  · next h => rw [BOk, Int.toNat_natCast]; exact .inr ⟨by omega, by omega, h.1⟩
  · exact h
theorem BOk.each {n : Nat} {st : List Int} {b : Int} (h : BOk n st b) (l : List Int) (hl : ∀ v ∈ l, isRef v = true → (cellN v).toNat < n) : BOk n st (eachW (better st) b l) :=
  each_all (P := BOk n st) (f := better st) (ok := fun c => c < n) (fun s c h1 h2 => BOk.step h1 c h2) l b h hl
/-- From a cell that is not its end it goes on nearer. -/
theorem next_ok {h : List Cel} {to : Nat} {st : List Int} (ho : FarOk h to st) (hm : ∀ c, c < h.length → ∀ v ∈ wordsOf h c, isRef v = true → (cellN v).toNat < h.length) {b : Nat} (hb : b < h.length) (h0 : 0 ≤ st.getD b 0) (hne : b ≠ to) :
    ∃ b' : Nat, named h (better st) (-1) b = (b' : Int) ∧ b' < h.length ∧ 0 ≤ st.getD b' 0 ∧ st.getD b' 0 < st.getD b 0 := by
  rcases ho.near b hb h0 with e | ⟨v, v1, v2, v3, v4, v5⟩
  · exact absurd e hne
  · have h1 := (eachW_better st (wordsOf h b) (-1)).2 v v1 v2 v4
    have h2 := BOk.each (n := h.length) (st := st) (b := -1) (.inl rfl) (wordsOf h b) (hm b hb)
    change 0 ≤ named h (better st) (-1) b ∧ _ at h1
    change BOk _ _ (named h (better st) (-1) b) at h2
    rcases h2 with e | ⟨e1, e2, e3⟩
    · omega
    · refine ⟨(named h (better st) (-1) b).toNat, by omega, by omega, e3, ?_⟩
      have h3 : st.getD (named h (better st) (-1) b).toNat 0 ≤ st.getD (cellN v).toNat 0 := h1.2
      omega
end Go.Proofs.YtggijcebobjghaaDoor.Gr
