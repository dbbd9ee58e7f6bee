/-
  far as a plain function (no program), and its memory.
-/
import Derived.Test.YtggijcebobjghaaDoorQGraph7
set_option linter.unusedVariables false
set_option linter.unusedSimpArgs false
set_option maxRecDepth 100000
namespace Go.Proofs.YtggijcebobjghaaDoor.Gr
open Go.RowKit Go.Proofs.YtggijcebobjghaaDoor.Wd Go.Proofs.YtggijcebobjghaaDoor.Hp Go.Proofs.YtggijcebobjghaaDoor.Gp Go.Proofs.YtggijcebobjghaaDoor.Sm

def fromK (h : List Cel) : Nat → List (List Nat)
  | 0 => List.replicate h.length []
  | k + 1 => named h (push k) (fromK h k) k
abbrev FSt := List Int × List Nat
def farC (r : Nat) (s : FSt) (c : Nat) : FSt := if s.1.getD c 0 < 0 then (s.1.set c (s.1.getD r 0 + 1), s.2 ++ [c]) else s
def farIn (r : Nat) (s : FSt) (cs : List Nat) : FSt := cs.foldl (farC r) s
def farL (fr : List (List Nat)) : Nat → Nat → FSt → FSt
  | 0, _, s => s
  | k + 1, i, s => if i < s.2.length then farL fr k (i + 1) (farIn (s.2.getD i 0) s (fr.getD (s.2.getD i 0) [])) else s
def far0 (n to : Nat) : FSt := ((List.replicate n (-1)).set to 0, [to])
def farS (h : List Cel) (to : Nat) : FSt := farL (fromK h h.length) (h.length + 1) 0 (far0 h.length to)
def far (h : List Cel) (to : Nat) : List Int := (farS h to).1

/-- Of every state: who is in the row has a number, below the row's length. -/
structure FInv (n : Nat) (s : FSt) : Prop where
  len : s.1.length = n
  nd : s.2.Nodup
  mem : ∀ c, c ∈ s.2 ↔ c < n ∧ 0 ≤ s.1.getD c (-1)
  lt : ∀ c, s.1.getD c (-1) < s.2.length
  ge : ∀ c, -1 ≤ s.1.getD c (-1)
theorem getD_set (l : List Int) (c j : Nat) (v d : Int) (hc : c < l.length) : (l.set c v).getD j d = if j = c then v else l.getD j d := by
  by_cases e : j = c
  · subst e; simp [List.getD_eq_getElem?_getD, hc]
  · simp only [List.getD_eq_getElem?_getD, List.getElem?_set_ne (Ne.symm e), if_neg e]
theorem getD_d (l : List Int) (c : Nat) (d d' : Int) (hc : c < l.length) : l.getD c d = l.getD c d' := by simp [List.getD_eq_getElem?_getD, hc]
theorem FInv.start (n to : Nat) (h : to < n) : FInv n (far0 n to) := by
  have hl : (List.replicate n (-1 : Int)).length = n := by simp
  have hg : ∀ c, (List.replicate n (-1 : Int)).getD c (-1) = -1 := fun c => by
    simp only [List.getD_eq_getElem?_getD, List.getElem?_replicate]; split <;> rfl
  refine ⟨by simp [far0], by simp [far0], fun c => ?_, fun c => ?_, fun c => ?_⟩
  · simp only [far0, List.mem_singleton]
    rw [getD_set _ _ _ _ _ (by rw [hl]; exact h), hg]
    by_cases e : c = to
    · subst e; simp [h]
    · simp [e]
  · simp only [far0]
    rw [getD_set _ _ _ _ _ (by rw [hl]; exact h), hg]
    split <;> simp
  · simp only [far0]
    rw [getD_set _ _ _ _ _ (by rw [hl]; exact h), hg]
    split <;> omega
theorem FInv.step {n r : Nat} {s : FSt} (h : FInv n s) (hr : r ∈ s.2) (c : Nat) (hc : c < n) : FInv n (farC r s c) ∧ (∀ x ∈ s.2, x ∈ (farC r s c).2) := by
  unfold farC
  obtain ⟨h1, h2, h3, h4, h5⟩ := h
  have hrn := (h3 r).1 hr
  split
  · next hlt =>
    have hlt' : s.1.getD c (-1) < 0 := by rw [getD_d _ _ _ 0 (by omega)]; exact hlt
    have hnm : c ∉ s.2 := fun hm => by have := ((h3 c).1 hm).2; omega
    have hrd : s.1.getD r 0 = s.1.getD r (-1) := getD_d _ _ _ _ (by omega)
    have h4r := h4 r
    refine ⟨⟨by simpa using h1, ?_, fun x => ?_, fun x => ?_, fun x => ?_⟩, fun x hx => by simp [hx]⟩
    · rw [List.nodup_append]
      exact ⟨h2, by simp, fun a ha b hb => by simp at hb; subst hb; exact fun e => hnm (e ▸ ha)⟩
    · simp only
      rw [List.mem_append, List.mem_singleton, h3 x, getD_set _ _ _ _ _ (by omega)]
      by_cases e : x = c
      · subst e; rw [if_pos rfl]; exact ⟨fun _ => ⟨hc, by omega⟩, fun _ => .inr rfl⟩
      · simp [e]
    · simp only
      rw [getD_set _ _ _ _ _ (by omega), List.length_append, List.length_singleton]
      have := h4 x
      split <;> omega
    · simp only
      rw [getD_set _ _ _ _ _ (by omega)]
      have := h5 x
      split <;> omega
  · exact ⟨⟨h1, h2, h3, h4, h5⟩, fun x hx => hx⟩
theorem FInv.many {n r : Nat} : ∀ (cs : List Nat) {s : FSt}, FInv n s → r ∈ s.2 → (∀ c ∈ cs, c < n) → FInv n (farIn r s cs) ∧ (∀ x ∈ s.2, x ∈ (farIn r s cs).2)
  | [], s, h, _, _ => ⟨h, fun x hx => hx⟩
  | c :: cs, s, h, hr, hc => by
    obtain ⟨h1, h2⟩ := h.step hr c (hc c (by simp))
    obtain ⟨h3, h4⟩ := FInv.many cs h1 (h2 r hr) (fun x hx => hc x (by simp [hx]))
    exact ⟨h3, fun x hx => h4 x (h2 x hx)⟩
theorem FInv.le {n : Nat} {s : FSt} (h : FInv n s) : s.2.length ≤ n := by
  have hs : ∀ x ∈ s.2, x ∈ List.range n := fun x hx => List.mem_range.2 ((h.mem x).1 hx).1
  have := h.nd.length_le_of_subset hs
  simpa using this
theorem FInv.at_mem {n : Nat} {s : FSt} (h : FInv n s) (i : Nat) (hi : i < s.2.length) : s.2.getD i 0 ∈ s.2 := by
  rw [show s.2.getD i 0 = s.2[i] by simp [List.getD, hi]]; exact List.getElem_mem hi
/-- Who is written down as naming another one is a cell. -/
theorem push_mem (k : Nat) (fr : List (List Nat)) (c : Nat) (P : Nat → Prop) (hk : P k) (h : ∀ j, ∀ x ∈ fr.getD j [], P x) : ∀ j, ∀ x ∈ (push k fr c).getD j [], P x := by
  intro j x hx
  by_cases hc : c < fr.length
  · rw [push_at _ _ _ _ hc] at hx
    split at hx
    · simp only [List.mem_append, List.mem_singleton] at hx
      rcases hx with hx | rfl
      · exact h c x hx
      · exact hk
    · exact h j x hx
  · unfold push at hx
    rw [List.set_eq_of_length_le (by omega)] at hx
    exact h j x hx
theorem fromK_mem (h : List Cel) : ∀ k c, ∀ x ∈ (fromK h k).getD c [], x < k
  | 0, c, x, hx => by
    simp only [fromK, List.getD_eq_getElem?_getD, List.getElem?_replicate] at hx
    split at hx <;> simp at hx
  | k + 1, c, x, hx => by
    have := each_all (P := fun fr => ∀ j, ∀ x ∈ fr.getD j [], x < k + 1) (ok := fun _ => True) (f := push k) (fun s c h1 _ => push_mem k s c (fun x => x < k + 1) (by omega) h1) (wordsOf h k) (fromK h k) (fun j x hx => by have := fromK_mem h k j x hx; omega) (fun _ _ _ => trivial)
    exact this c x hx
theorem infoInts : (Tryd.prog.info? 59).map (fun i => (i.zero, i.size, i.bytes)) = some (some (.slice none 0 0), 1, 24) := by kernel_rfl
theorem run_make_lists (w : World) (n : Nat) (h : n ≤ 1000000) : (Instr.makeSlice 30 (.int .i64 (n : Int)) (.int .i64 (n : Int))).run Tryd.prog w = .ok (.slice (some ⟨w.heap.size, 0, none⟩) n n) (w.alloc (.cells ((List.range n).map (fun _ => Value.slice none 0 0)).toArray 59)) := by
  obtain ⟨i, hi, he⟩ := Option.map_eq_some_iff.1 infoInts
  simp only [Prod.mk.injEq] at he
  obtain ⟨e1, e2, e3⟩ := he
  have := run_make (P := Tryd.prog) w 30 59 i _ Tryd.underlying30 hi e1 .i64 .i64 n n (by omega) (by omega) (by rw [e3]; omega) (by omega)
  rw [this, e2]
  have e4 : (Value.slice none 0 0).cells = #[.slice none 0 0] := rfl
  simp only [Int.toNat_natCast]
  rw [e4, Nat.mul_one, made_one]
  congr 3
  simp [List.map_const']

/-- .. between two cells: no closure is there. -/
structure FR0 (pf fb n b : Nat) (w : World) (fr : List (List Nat)) (T : List Nat) : Prop where
  len : fr.length = n
  hpf : w.heap[pf]? = some (.cells #[.slice (some ⟨fb, 0, none⟩) n n] 30 (0, 0))
  ne : pf ≠ fb
  room : ∀ c, c < n → (fr.getD c []).length + b ≤ 4000000
  ex : ∃ (V : Nat → Value) (Q : Nat → List Nat), T = fb :: (List.range n).flatMap Q ∧ w.heap[fb]? = some (.cells ((List.range n).map V).toArray 59 (0, 0)) ∧ (∀ c, c < n → Row w 3 1 (V c) (Q c) (fr.getD c []).length (nv (fr.getD c []))) ∧
    (∀ c, c < n → ∀ q ∈ Q c, (q ≠ pf ∧ q ≠ fb) ∧ q < w.heap.size) ∧ ∀ c c', c < n → c' < n → c ≠ c' → ∀ q ∈ Q c, q ∉ Q c'
theorem FR.to0 {pf fb pi n b : Nat} {i : Int} {w : World} {fr : List (List Nat)} {T : List Nat} (h : FR pf fb pi n i b w fr T) : FR0 pf fb n b w fr T := by
  obtain ⟨a1, a2, a3, a4, a5, V, Q, b1, b2, b3, b4, b5⟩ := h
  exact ⟨a1, a2, a4.1, a5, V, Q, b1, b2, b3, fun c h q hq => ⟨⟨(b4 c h q hq).1.1, (b4 c h q hq).1.2.1⟩, (b4 c h q hq).2⟩, b5⟩
theorem FR0.new {pf fb n b : Nat} {w : World} {fr : List (List Nat)} {T : List Nat} (h : FR0 pf fb n b w fr T) (i : Int) : FR pf fb w.heap.size n i b (w.alloc (.cells #[.int .i64 i] 3)) fr T := by
  obtain ⟨a1, a2, a4, a5, V, Q, b1, b2, b3, b4, b5⟩ := h
  have C := (Ch.refl [] w).alloc (.cells #[.int .i64 i] 3)
  have l1 := lt_of a2
  have l2 := lt_of b2
  exact ⟨a1, C.heap a2 (by simp), heap_new w _, ⟨a4, by omega, by omega⟩, a5, V, Q, b1, C.heap b2 (by simp), fun c h => (b3 c h).ch C (by simp), fun c h q hq => by
    have := b4 c h q hq
    refine ⟨⟨this.1.1, this.1.2, by omega⟩, by simp; omega⟩, b5⟩
theorem FR0.less {pf fb n b b' : Nat} {w : World} {fr : List (List Nat)} {T : List Nat} (h : FR0 pf fb n b w fr T) (hb : b' ≤ b) : FR0 pf fb n b' w fr T :=
  ⟨h.len, h.hpf, h.ne, fun c hc => by have := h.room c hc; omega, h.ex⟩
theorem FR0.tlt {pf fb n b : Nat} {w : World} {fr : List (List Nat)} {T : List Nat} (h : FR0 pf fb n b w fr T) : ∀ t ∈ T, t < w.heap.size := by
  obtain ⟨a1, a2, a4, a5, V, Q, b1, b2, b3, b4, b5⟩ := h
  intro t ht
  rw [b1] at ht
  simp only [List.mem_cons, List.mem_flatMap, List.mem_range] at ht
  rcases ht with rfl | ⟨j, hj, hm⟩
  · exact lt_of b2
  · exact (b4 j hj t hm).2
theorem FR0.start (w : World) (n : Nat) (hn : n ≤ 1000000) : FR0 (w.heap.size + 1) w.heap.size n (2 * n) ((w.alloc (.cells ((List.range n).map (fun _ => Value.slice none 0 0)).toArray 59)).alloc (.cells #[.slice (some ⟨w.heap.size, 0, none⟩) n n] 30)) (List.replicate n []) [w.heap.size] := by
  have hg : ∀ c, (List.replicate n ([] : List Nat)).getD c [] = [] := fun c => by
    simp only [List.getD_eq_getElem?_getD, List.getElem?_replicate]; split <;> rfl
  refine ⟨by simp, ?_, by omega, fun c hc => by rw [hg]; simp; omega, fun _ => .slice none 0 0, fun _ => [], by simp, heap_old (heap_new w _), fun c hc => by rw [hg]; exact Row.nil _ _ _ _, (fun c hc q hq => by simp at hq), (fun c c' _ _ _ q hq => by simp at hq)⟩
  have := heap_new (w.alloc (.cells ((List.range n).map (fun _ => Value.slice none 0 0)).toArray 59)) (.cells #[.slice (some ⟨w.heap.size, 0, none⟩) n n] 30)
  simpa using this
def iv (l : List Int) : List Value := l.map (Value.int .i64)
theorem iv_at (l : List Int) (c : Nat) (d : Int) (h : c < l.length) : (iv l)[c]? = some (.int .i64 (l.getD c d)) := by simp [iv, h]
theorem iv_set (l : List Int) (c : Nat) (x : Int) : (iv l).toArray.setIfInBounds c (.int .i64 x) = (iv (l.set c x)).toArray := by
  simp [iv, List.map_set]
def negK (n : Nat) : Nat → List Int
  | 0 => List.replicate n 0
  | k + 1 => (negK n k).set k (-1)
theorem negK_len (n : Nat) : ∀ k, (negK n k).length = n
  | 0 => by simp [negK]
  | k + 1 => by simp [negK, negK_len n k]
theorem negK_at (n : Nat) : ∀ k j, k ≤ n → j < n → (negK n k).getD j 0 = if j < k then -1 else 0
  | 0, j, _, hj => by simp [negK, List.getD_eq_getElem?_getD, hj]
  | k + 1, j, hk, hj => by
    rw [negK, getD_set _ _ _ _ _ (by rw [negK_len]; omega), negK_at n k j (by omega) hj]
    by_cases e : j = k
    · subst e; simp
    · rw [if_neg e]
      by_cases h : j < k
      · rw [if_pos h, if_pos (by omega)]
      · rw [if_neg h, if_neg (by omega)]
theorem negK_all (n : Nat) : negK n n = List.replicate n (-1) := by
  apply List.ext_getElem
  · simp [negK_len]
  · intro j h1 h2
    have h3 : j < n := by rw [negK_len] at h1; exact h1
    have := negK_at n n j (Nat.le_refl _) h3
    rw [if_pos h3] at this
    rw [show (negK n n).getD j 0 = (negK n n)[j] by simp [List.getD, h1]] at this
    rw [this]; simp
end Go.Proofs.YtggijcebobjghaaDoor.Gr
