/-
  PLAIN LAWS (no program): a heap of cells as a list; what is reached, as graph.order meets it.
-/
import Derived.Test.YtlhhcocdhkbdnaaDoorWordsPure
import Derived.Test.YtlhhcocdhkbdnaaDoorHeap2
set_option linter.unusedVariables false
set_option linter.unusedSimpArgs false
namespace Go.Proofs.YtlhhcocdhkbdnaaDoor.Gp
open Go.RowKit Go.Proofs.YtlhhcocdhkbdnaaDoor.Wd Go.Proofs.YtlhhcocdhkbdnaaDoor.Hp

structure Cel where
  k : Int
  c : Int
  a : Int
  b : Int
  deriving DecidableEq
def z : Cel := ⟨0, 0, 0, 0⟩
def celV (x : Cel) : List Value := [.int .u8 x.k, .int .u8 x.c, .int .u64 x.a, .int .u64 x.b]
def flat (l : List Cel) : List Value := l.flatMap celV
theorem flat_len : ∀ l : List Cel, (flat l).length = l.length * 4
  | [] => rfl
  | x :: l => by simp only [flat, List.flatMap_cons, List.length_append, List.length_cons]; have := flat_len l; simp only [flat] at this; rw [this]; simp [celV]; omega
theorem flat_get : ∀ (l : List Cel) (i t : Nat), i < l.length → t < 4 → (flat l)[i * 4 + t]? = (celV (l.getD i z))[t]?
  | [], i, t, h, _ => absurd h (by simp)
  | x :: l, 0, t, _, ht => by
    simp only [flat, List.flatMap_cons, List.getD_cons_zero, Nat.zero_mul, Nat.zero_add]
    rw [List.getElem?_append_left (by simp [celV]; omega)]
  | x :: l, i + 1, t, h, ht => by
    simp only [flat, List.flatMap_cons, List.getD_cons_succ]
    rw [List.getElem?_append_right (by simp [celV]; omega)]
    have := flat_get l i t (by simpa using h) ht
    simp only [flat] at this
    rw [← this]
    congr 1
    simp [celV]; omega
theorem flat_append (a b : List Cel) : flat (a ++ b) = flat a ++ flat b := by simp [flat]
def u64 (x : Int) : Prop := 0 ≤ x ∧ x < 18446744073709551616
def InR (x : Cel) : Prop := 0 ≤ x.k ∧ x.k < 256 ∧ 0 ≤ x.c ∧ x.c < 256 ∧ u64 x.a ∧ u64 x.b
theorem InR.at {l : List Cel} (h : ∀ x ∈ l, InR x) (i : Nat) (hi : i < l.length) : InR (l.getD i z) := by
  rw [show l.getD i z = l[i] by simp [List.getD, hi]]; exact h _ (List.getElem_mem hi)

/-- May a word stand in a heap of n cells? -/
def isWord (w : Int) (n : Nat) : Bool := ofOk w && (!isRef w || decide (cellN w < n))
def okCell (n : Nat) (x : Cel) : Bool := !(decide (3 < x.k)) && !(decide (2 < x.c)) && (x.k == 0 || (isWord x.a n && isWord x.b n))
/-- The first cell that may not be. -/
def badAt (n : Nat) : List Cel → Nat → Option Nat
  | [], _ => none
  | x :: l, i => if okCell n x then badAt n l (i + 1) else some i
def may (h : List Cel) (roots : List Int) : Bool := h.all (okCell h.length) && roots.all (fun w => isWord w h.length)

abbrev St := List Bool × List Nat
def meet (s : St) (c : Nat) : St := if s.1.getD c true then s else (s.1.set c true, s.2 ++ [c])
def eachW {α : Type} (f : α → Nat → α) (s : α) (l : List Int) : α := l.foldl (fun s w => if isRef w then f s (cellN w).toNat else s) s
def wordsOf (h : List Cel) (c : Nat) : List Int := if (h.getD c z).k = 0 then [] else [(h.getD c z).a, (h.getD c z).b]
def named {α : Type} (h : List Cel) (f : α → Nat → α) (s : α) (c : Nat) : α := eachW f s (wordsOf h c)
/-- From the i-th one on. -/
def orderL (h : List Cel) : Nat → Nat → St → St
  | 0, _, s => s
  | k + 1, i, s => if i < s.2.length then orderL h k (i + 1) (named h meet s (s.2.getD i 0)) else s
def order (h : List Cel) (roots : List Int) : St := orderL h (h.length + 1) 0 (eachW meet (List.replicate h.length false, []) roots)

/-- What is so of every state: each cell at most once, and just those that are met. -/
structure Inv (n : Nat) (s : St) : Prop where
  len : s.1.length = n
  nd : s.2.Nodup
  mem : ∀ c, c ∈ s.2 ↔ c < n ∧ s.1.getD c true = true
theorem Inv.start (n : Nat) : Inv n (List.replicate n false, []) := by
  refine ⟨by simp, List.nodup_nil, fun c => ?_⟩
  constructor
  · intro h; cases h
  · rintro ⟨h1, h2⟩
    simp [List.getD_eq_getElem?_getD, h1] at h2
theorem Inv.meet {n : Nat} {s : St} (h : Inv n s) (c : Nat) (hc : c < n) : Inv n (meet s c) := by
  unfold Gp.meet
  cases hm : s.1.getD c true
  · simp only [Bool.false_eq_true, if_false]
    have hnm : c ∉ s.2 := fun hx => by have := ((h.mem c).1 hx).2; rw [hm] at this; cases this
    have hl := h.len
    refine ⟨by simpa using h.len, ?_, fun x => ?_⟩
    · rw [List.nodup_append]
      exact ⟨h.nd, by simp, fun a ha b hb => by simp at hb; subst hb; exact fun e => hnm (e ▸ ha)⟩
    · rw [List.mem_append, List.mem_singleton, h.mem x]
      by_cases e : x = c
      · subst e; simp [hc, List.getD_eq_getElem?_getD, show x < s.1.length by omega]
      · simp only [List.getD_eq_getElem?_getD, List.getElem?_set_ne (Ne.symm e), e, or_false]
  · simp only [if_true]; exact h
theorem Inv.le {n : Nat} {s : St} (h : Inv n s) : s.2.length ≤ n := by
  have hs : ∀ x ∈ s.2, x ∈ List.range n := fun x hx => List.mem_range.2 ((h.mem x).1 hx).1
  have := h.nd.length_le_of_subset hs
  simpa using this
end Go.Proofs.YtlhhcocdhkbdnaaDoor.Gp
