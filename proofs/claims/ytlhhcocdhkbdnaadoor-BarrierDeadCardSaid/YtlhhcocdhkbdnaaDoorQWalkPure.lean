/-
  PLAIN LAWS (no program): a row of words that grows by the words of the cells that it names, as far as they count; which cells it meets.
-/
import Derived.Test.YtlhhcocdhkbdnaaDoorQJReachP
set_option linter.unusedVariables false
set_option linter.unusedSimpArgs false
namespace Go.Proofs.YtlhhcocdhkbdnaaDoor.Bp
open Go.RowKit Go.Proofs.YtlhhcocdhkbdnaaDoor.Wd Go.Proofs.YtlhhcocdhkbdnaaDoor.Hp Go.Proofs.YtlhhcocdhkbdnaaDoor.Gp Go.Proofs.YtlhhcocdhkbdnaaDoor.Gr

abbrev WS := List Bool × List Int
def cstep (h : List Cel) (cnt : Cel → Bool) (s : WS) (x : Int) : WS :=
  if isRef x && (!(s.1.getD (cellN x).toNat true) && cnt (h.getD (cellN x).toNat z)) then (s.1.set (cellN x).toNat true, s.2 ++ [(h.getD (cellN x).toNat z).a, (h.getD (cellN x).toNat z).b]) else s
def wkK (h : List Cel) (cnt : Cel → Bool) (src : List Int) : Nat → WS
  | 0 => (List.replicate h.length false, src)
  | k + 1 => match (wkK h cnt src k).2[k]? with | some x => cstep h cnt (wkK h cnt src k) x | none => wkK h cnt src k
def walkF (h : List Cel) (cnt : Cel → Bool) (src : List Int) : List Bool := (wkK h cnt src (src.length + 2 * h.length)).1
def trues : List Bool → Nat
  | [] => 0
  | b :: l => (if b then 1 else 0) + trues l
theorem trues_le : ∀ l, trues l ≤ l.length
  | [] => Nat.le_refl _
  | b :: l => by have := trues_le l; simp only [trues, List.length_cons]; split <;> omega
theorem trues_set : ∀ (l : List Bool) (c : Nat), l.getD c true = false → trues (l.set c true) = trues l + 1
  | [], c, h => by simp [List.getD] at h
  | b :: l, 0, h => by simp at h; subst h; simp [trues]; omega
  | b :: l, c + 1, h => by
    have := trues_set l c (by simpa using h)
    simp only [List.set_cons_succ, trues, this]; omega
theorem wkK_next {h : List Cel} {cnt : Cel → Bool} {src : List Int} {k : Nat} {x : Int} (hx : (wkK h cnt src k).2[k]? = some x) : wkK h cnt src (k + 1) = cstep h cnt (wkK h cnt src k) x := by
  show (match (wkK h cnt src k).2[k]? with | some x => cstep h cnt (wkK h cnt src k) x | none => wkK h cnt src k) = _
  rw [hx]
structure WInv (h : List Cel) (cnt : Cel → Bool) (src : List Int) (s : WS) : Prop where
  len : s.1.length = h.length
  size : s.2.length = src.length + 2 * trues s.1
theorem WInv.step {h : List Cel} {cnt : Cel → Bool} {src : List Int} {s : WS} (hs : WInv h cnt src s) (x : Int) : WInv h cnt src (cstep h cnt s x) := by
  unfold cstep
  split
  · next hc =>
    simp only [Bool.and_eq_true, Bool.not_eq_true'] at hc
    refine ⟨by simpa using hs.len, ?_⟩
    simp only [List.length_append, List.length_cons, List.length_nil]
    rw [trues_set _ _ hc.2.1, hs.size]; omega
  · exact hs
theorem wkK_inv (h : List Cel) (cnt : Cel → Bool) (src : List Int) : ∀ k, WInv h cnt src (wkK h cnt src k)
  | 0 => ⟨by simp [wkK], by
    have : ∀ n, trues (List.replicate n false) = 0 := fun n => by
      induction n with
      | zero => rfl
      | succ n ih => simp [List.replicate_succ, trues, ih]
    simp [wkK, this]⟩
  | k + 1 => by
    have ih := wkK_inv h cnt src k
    rw [wkK]
    split
    · exact ih.step _
    · exact ih
theorem WInv.le {h : List Cel} {cnt : Cel → Bool} {src : List Int} {s : WS} (hs : WInv h cnt src s) : s.2.length ≤ src.length + 2 * h.length := by
  have := trues_le s.1
  have := hs.size
  have := hs.len
  omega
theorem wkK_stable {h : List Cel} {cnt : Cel → Bool} {src : List Int} {k : Nat} (hk : (wkK h cnt src k).2.length ≤ k) : ∀ d, wkK h cnt src (k + d) = wkK h cnt src k
  | 0 => rfl
  | d + 1 => by
    have ih := wkK_stable hk d
    show (match (wkK h cnt src (k + d)).2[k + d]? with | some x => cstep h cnt (wkK h cnt src (k + d)) x | none => wkK h cnt src (k + d)) = _
    rw [ih, List.getElem?_eq_none (by omega)]
theorem wkK_end {h : List Cel} {cnt : Cel → Bool} {src : List Int} {k : Nat} (hk : (wkK h cnt src k).2.length ≤ k) : (wkK h cnt src k).1 = walkF h cnt src := by
  unfold walkF
  have h2 := (wkK_inv h cnt src (src.length + 2 * h.length)).le
  rw [← wkK_stable hk (src.length + 2 * h.length), ← wkK_stable h2 k, Nat.add_comm]
theorem walkF_len (h : List Cel) (cnt : Cel → Bool) (src : List Int) : (walkF h cnt src).length = h.length := (wkK_inv h cnt src _).len
theorem cstep_pre (h : List Cel) (cnt : Cel → Bool) (s : WS) (x : Int) : ∃ t, (cstep h cnt s x).2 = s.2 ++ t := by
  unfold cstep; split
  · exact ⟨_, rfl⟩
  · exact ⟨[], by simp⟩

/-- What is reached from words, over cells that count. -/
inductive Rch (h : List Cel) (cnt : Cel → Bool) (src : List Int) : Nat → Prop
  | src (x : Int) : x ∈ src → isRef x = true → (cellN x).toNat < h.length → cnt (h.getD (cellN x).toNat z) = true → Rch h cnt src (cellN x).toNat
  | step (d : Nat) (x : Int) : Rch h cnt src d → (x = (h.getD d z).a ∨ x = (h.getD d z).b) → isRef x = true → (cellN x).toNat < h.length → cnt (h.getD (cellN x).toNat z) = true → Rch h cnt src (cellN x).toNat
theorem Rch.lt {h : List Cel} {cnt : Cel → Bool} {src : List Int} {c : Nat} (hr : Rch h cnt src c) : c < h.length := by
  cases hr <;> assumption
theorem Rch.cnt {h : List Cel} {cnt : Cel → Bool} {src : List Int} {c : Nat} (hr : Rch h cnt src c) : cnt (h.getD c z) = true := by
  cases hr <;> assumption
theorem Rch.mono {h : List Cel} {cnt : Cel → Bool} {src src' : List Int} (hs : ∀ x ∈ src, x ∈ src') {c : Nat} (hr : Rch h cnt src c) : Rch h cnt src' c := by
  induction hr with
  | src x hx h1 h2 h3 => exact .src x (hs x hx) h1 h2 h3
  | step d x _ hx h1 h2 h3 ih => exact .step d x ih hx h1 h2 h3
/-- All that is met is reached. -/
structure WSnd (h : List Cel) (cnt : Cel → Bool) (src : List Int) (s : WS) : Prop where
  met : ∀ c, c < h.length → s.1.getD c true = true → Rch h cnt src c
  row : ∀ x ∈ s.2, x ∈ src ∨ ∃ d, Rch h cnt src d ∧ (x = (h.getD d z).a ∨ x = (h.getD d z).b)
theorem getD_setB (l : List Bool) (c d : Nat) (hc : c < l.length) : (l.set c true).getD d true = if d = c then true else l.getD d true := by
  by_cases e : d = c
  · subst e; simp [List.getD_eq_getElem?_getD, hc]
  · rw [if_neg e]; simp only [List.getD_eq_getElem?_getD, List.getElem?_set_ne (Ne.symm e)]
theorem WSnd.step {h : List Cel} {cnt : Cel → Bool} {src : List Int} {s : WS} (hl : s.1.length = h.length) (hs : WSnd h cnt src s) (x : Int) (hx : x ∈ s.2) : WSnd h cnt src (cstep h cnt s x) := by
  unfold cstep
  split
  · next hc =>
    simp only [Bool.and_eq_true, Bool.not_eq_true'] at hc
    have hlt : (cellN x).toNat < h.length := by
      rw [← hl]
      rcases Nat.lt_or_ge (cellN x).toNat s.1.length with h1 | h1
      · exact h1
      · have := hc.2.1
        rw [List.getD_eq_getElem?_getD, List.getElem?_eq_none h1] at this
        simp at this
    have hR : Rch h cnt src (cellN x).toNat := by
      rcases hs.row x hx with h1 | ⟨d, h1, h2⟩
      · exact .src x h1 hc.1 hlt hc.2.2
      · exact .step d x h1 h2 hc.1 hlt hc.2.2
    refine ⟨fun c hcl hm => ?_, fun y hy => ?_⟩
    · rw [getD_setB _ _ _ (by rw [hl]; exact hlt)] at hm
      split at hm
      · next e => rw [e]; exact hR
      · exact hs.met c hcl hm
    · rw [List.mem_append] at hy
      rcases hy with hy | hy
      · exact hs.row y hy
      · right
        refine ⟨_, hR, ?_⟩
        simpa using hy
  · exact hs
theorem wkK_snd (h : List Cel) (cnt : Cel → Bool) (src : List Int) : ∀ k, WSnd h cnt src (wkK h cnt src k)
  | 0 => ⟨fun c hc hm => by simp [wkK, List.getD, hc] at hm, fun x hx => .inl hx⟩
  | k + 1 => by
    have ih := wkK_snd h cnt src k
    rw [wkK]
    split
    · next x hx => exact ih.step (wkK_inv h cnt src k).len x (List.mem_of_getElem? hx)
    · exact ih
/-- What was looked at is met, as far as it counts; of what is met the words stand in the row. -/
structure WCpl (h : List Cel) (cnt : Cel → Bool) (src : List Int) (s : WS) (k : Nat) : Prop where
  seen : ∀ (i : Nat) (x : Int), i < k → s.2[i]? = some x → isRef x = true → (cellN x).toNat < h.length → cnt (h.getD (cellN x).toNat z) = true → s.1.getD (cellN x).toNat true = true
  words : ∀ c, c < h.length → s.1.getD c true = true → (h.getD c z).a ∈ s.2 ∧ (h.getD c z).b ∈ s.2
  has : ∀ x ∈ src, x ∈ s.2
theorem wkK_cpl (h : List Cel) (cnt : Cel → Bool) (src : List Int) : ∀ k, WCpl h cnt src (wkK h cnt src k) k
  | 0 => ⟨fun i x hi => absurd hi (by omega), fun c hc hm => by simp [wkK, List.getD, hc] at hm, fun x hx => hx⟩
  | k + 1 => by
    have ih := wkK_cpl h cnt src k
    have hl := (wkK_inv h cnt src k).len
    rw [wkK]
    split
    · next x hx =>
      have hk : k < (wkK h cnt src k).2.length := by
        rcases Nat.lt_or_ge k (wkK h cnt src k).2.length with h1 | h1
        · exact h1
        · rw [List.getElem?_eq_none h1] at hx; cases hx
      obtain ⟨t, ht⟩ := cstep_pre h cnt (wkK h cnt src k) x
      refine ⟨fun i y hi hy h1 h2 h3 => ?_, fun c hc hm => ?_, fun y hy => by rw [ht]; exact List.mem_append_left _ (ih.has y hy)⟩
      · rw [ht, List.getElem?_append_left (by omega)] at hy
        unfold cstep
        by_cases e : i = k
        · subst e
          rw [hx] at hy
          obtain rfl := Option.some.inj hy
          split
          · simp only
            rw [getD_setB _ _ _ (by rw [hl]; exact h2), if_pos rfl]
          · next hc =>
            simp only [h1, h3, Bool.true_and, Bool.and_true, Bool.not_eq_true', Bool.not_eq_false] at hc
            exact hc
        · have := ih.seen i y (by omega) hy h1 h2 h3
          split
          · simp only
            next hc =>
            simp only [Bool.and_eq_true, Bool.not_eq_true'] at hc
            have hlt : (cellN x).toNat < (wkK h cnt src k).1.length := by
              rcases Nat.lt_or_ge (cellN x).toNat (wkK h cnt src k).1.length with h1 | h1
              · exact h1
              · have := hc.2.1
                rw [List.getD_eq_getElem?_getD, List.getElem?_eq_none h1] at this
                simp at this
            rw [getD_setB _ _ _ hlt]
            split
            · rfl
            · exact this
          · exact this
      · unfold cstep at hm ⊢
        split at hm
        · next hcc =>
          rw [if_pos hcc]
          simp only [Bool.and_eq_true, Bool.not_eq_true'] at hcc
          have hlt : (cellN x).toNat < (wkK h cnt src k).1.length := by
            rcases Nat.lt_or_ge (cellN x).toNat (wkK h cnt src k).1.length with h1 | h1
            · exact h1
            · have := hcc.2.1
              rw [List.getD_eq_getElem?_getD, List.getElem?_eq_none h1] at this
              simp at this
          simp only at hm ⊢
          rw [getD_setB _ _ _ hlt] at hm
          split at hm
          · next e => subst e; simp
          · have := ih.words c hc hm
            exact ⟨List.mem_append_left _ this.1, List.mem_append_left _ this.2⟩
        · next hcc => rw [if_neg hcc]; exact ih.words c hc hm
    · next hn =>
      refine ⟨fun i y hi hy => ?_, ih.words, ih.has⟩
      by_cases e : i = k
      · subst e; rw [hn] at hy; cases hy
      · exact ih.seen i y (by omega) hy
/-- JUST WHAT IS REACHED is met. -/
theorem walkF_iff (h : List Cel) (cnt : Cel → Bool) (src : List Int) (c : Nat) (hc : c < h.length) : (walkF h cnt src).getD c true = true ↔ Rch h cnt src c := by
  have hi := wkK_inv h cnt src (src.length + 2 * h.length)
  have hs := wkK_snd h cnt src (src.length + 2 * h.length)
  have hp := wkK_cpl h cnt src (src.length + 2 * h.length)
  have hle := hi.le
  constructor
  · exact hs.met c hc
  · intro hr
    have key : ∀ x, x ∈ (wkK h cnt src (src.length + 2 * h.length)).2 → isRef x = true → (cellN x).toNat < h.length → cnt (h.getD (cellN x).toNat z) = true → (walkF h cnt src).getD (cellN x).toNat true = true := by
      intro x hx h1 h2 h3
      obtain ⟨i, hi', he⟩ := List.getElem_of_mem hx
      exact hp.seen i x (by omega) (by rw [List.getElem?_eq_getElem hi', he]) h1 h2 h3
    induction hr with
    | src x hx h1 h2 h3 => exact key x (hp.has x hx) h1 h2 h3
    | step d x hd hx h1 h2 h3 ih =>
      have := hp.words d hd.lt (ih hd.lt)
      refine key x ?_ h1 h2 h3
      rcases hx with rfl | rfl
      · exact this.1
      · exact this.2
/-- Two lists of truths that say the same are the same. -/
theorem bools_ext {a b : List Bool} (h1 : a.length = b.length) (h2 : ∀ c, c < a.length → (a.getD c true = true ↔ b.getD c true = true)) : a = b := by
  apply List.ext_getElem h1
  intro i hi hj
  have := h2 i hi
  simp only [List.getD_eq_getElem?_getD, List.getElem?_eq_getElem hi, List.getElem?_eq_getElem hj, Option.getD_some] at this
  exact Bool.eq_iff_iff.2 this
theorem walkF_congr {h : List Cel} {cnt : Cel → Bool} {src src' : List Int} (hs : ∀ x, x ∈ src ↔ x ∈ src') : walkF h cnt src = walkF h cnt src' := by
  apply bools_ext
  · rw [walkF_len, walkF_len]
  · intro c hc
    rw [walkF_len] at hc
    rw [walkF_iff h cnt src c hc, walkF_iff h cnt src' c hc]
    exact ⟨Rch.mono (fun x hx => (hs x).1 hx), Rch.mono (fun x hx => (hs x).2 hx)⟩
end Go.Proofs.YtlhhcocdhkbdnaaDoor.Bp
