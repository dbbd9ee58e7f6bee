/-
  PLAIN LAWS (no program): the allocator as a machine over lists: where each cell is (0 free, 1 out, 2 given), what each thread has been given (the cell and 1), who waits.
-/
import Derived.WalkKit
namespace Go.Proofs.Ytdncodandmjknaa.Ap

structure St where
  cs : List Int
  gs : List Int
  q : List (Int × Int)

/-- The first place of a number in a list (-1: none). -/
def idx (v : Int) (l : List Int) : Int := if v ∈ l then (l.idxOf v : Int) else -1
def waits (s : St) (t : Int) : Bool := s.q.any (fun x => x.1 == t)
def badT (s : St) (t : Int) : Bool := decide (t < 1) || decide (8 < t) || waits s t
def gift (s : St) (t : Int) : Int := s.gs.getD t.toNat 0
def askCell (s : St) (t : Int) : Int := if badT s t then 0 else if 0 < gift s t then gift s t - 1 else if 0 ≤ idx 0 s.cs then idx 0 s.cs else 0
def askGot (s : St) (t : Int) : Bool := if badT s t then false else if 0 < gift s t then true else decide (0 ≤ idx 0 s.cs)
def askErr (s : St) (t : Int) : Int := if badT s t then 120 else 0
def ask (s : St) (t b : Int) : St :=
  if badT s t then s
  else if 0 < gift s t then { s with gs := s.gs.set t.toNat 0, cs := s.cs.set (gift s t - 1).toNat 1 }
  else if 0 ≤ idx 0 s.cs then { s with cs := s.cs.set (idx 0 s.cs).toNat 1 }
  else { s with q := s.q ++ [(t, b)] }
def badC (s : St) (c : Int) : Bool := decide (c < 0) || decide ((s.cs.length : Int) ≤ c) || (s.cs.getD c.toNat 0 != 1)
def first (s : St) : Int := (s.q.headD (0, 0)).1
def backN (s : St) (c : Int) : Int := if badC s c then 0 else if s.q.isEmpty then 0 else first s
def backErr (s : St) (c : Int) : Int := if badC s c then 120 else 0
def back (s : St) (c : Int) : St :=
  if badC s c then s
  else if s.q.isEmpty then { s with cs := s.cs.set c.toNat 0 }
  else { cs := s.cs.set c.toNat 2, gs := s.gs.set (first s).toNat (c + 1), q := s.q.tail }
def finishL (s : St) (cycle freed : Int) : List Int := if freed = 0 then (s.q.filter (fun x => decide (x.2 < cycle))).map (·.1) else []
def finish (s : St) (cycle freed : Int) : St := if freed = 0 then { s with q := s.q.filter (fun x => !decide (x.2 < cycle)) } else s
def freeL (s : St) : List Int := ((List.range s.cs.length).filter (fun i => s.cs.getD i 0 == 0)).map (fun i : Nat => (i : Int))

theorem idx_at {v : Int} {l : List Int} {k : Nat} (h : ∀ j, j < k → l.getD j 0 ≠ v) (hk : k < l.length) (hv : l.getD k 0 = v) : idx v l = k := by
  have hv' : l[k] = v := by simpa [List.getD, hk] using hv
  have hm : v ∈ l := hv' ▸ List.getElem_mem hk
  unfold idx
  rw [if_pos hm]
  have h1 : l.idxOf v ≤ k := by
    rcases Nat.lt_or_ge k (l.idxOf v) with h2 | h2
    · have := List.not_of_lt_findIdx (xs := l) (p := (· == v)) (i := k) (by simpa [List.idxOf] using h2)
      simp [hv'] at this
    · exact h2
  have h3 : k ≤ l.idxOf v := by
    rcases Nat.lt_or_ge (l.idxOf v) k with h2 | h2
    · exfalso
      apply h _ h2
      have h4 : l.idxOf v < l.length := List.idxOf_lt_length_of_mem hm
      have := List.getElem_idxOf h4
      simp [List.getD, h4, this]
    · exact h2
  omega
theorem idx_none {v : Int} {l : List Int} (h : ∀ j, j < l.length → l.getD j 0 ≠ v) : idx v l = -1 := by
  unfold idx
  rw [if_neg]
  intro hm
  obtain ⟨j, hj, e⟩ := List.getElem_of_mem hm
  exact h j hj (by simp [List.getD, hj, e])
theorem any_at {l : List (Int × Int)} {t : Int} {k : Nat} (hk : k < l.length) (hv : (l.getD k (0, 0)).1 = t) : l.any (fun x => x.1 == t) = true := by
  rw [List.any_eq_true]
  have hv' : (l[k]).1 = t := by simpa [List.getD, hk] using hv
  exact ⟨l[k], List.getElem_mem hk, by simp [hv']⟩
theorem any_none {l : List (Int × Int)} {t : Int} (h : ∀ j, j < l.length → (l.getD j (0, 0)).1 ≠ t) : l.any (fun x => x.1 == t) = false := by
  rw [List.any_eq_false]
  intro x hx
  obtain ⟨j, hj, e⟩ := List.getElem_of_mem hx
  have := h j hj
  simp [List.getD, hj, e] at this
  simpa using this

/-- What is so of every allocator: sizes; who waits is a thread; what is given is a cell. -/
structure Ok (s : St) : Prop where
  len : 4 ≤ s.cs.length ∧ s.cs.length ≤ 4096
  gl : s.gs.length = 9
  qt : ∀ x ∈ s.q, 1 ≤ x.1 ∧ x.1 ≤ 8
  qb : ∀ x ∈ s.q, -9223372036854775808 ≤ x.2 ∧ x.2 ≤ 9223372036854775807
  ql : s.q.length ≤ 8
  nd : (s.q.map (·.1)).Nodup
  gb : ∀ x ∈ s.gs, 0 ≤ x ∧ x ≤ s.cs.length
theorem Ok.setG {s : St} (h : Ok s) (t : Nat) (v : Int) (hv : 0 ≤ v ∧ v ≤ s.cs.length) : Ok { s with gs := s.gs.set t v } :=
  ⟨h.len, by simpa using h.gl, h.qt, h.qb, h.ql, h.nd, fun x hx => by
    rcases List.mem_or_eq_of_mem_set hx with h1 | h1
    · exact h.gb x h1
    · subst h1; exact hv⟩
theorem Ok.setC {s : St} (h : Ok s) (i : Nat) (v : Int) : Ok { s with cs := s.cs.set i v } :=
  ⟨by simpa using h.len, h.gl, h.qt, h.qb, h.ql, h.nd, fun x hx => by simpa using h.gb x hx⟩
theorem Ok.gift {s : St} (h : Ok s) (t : Nat) (ht : t < 9) : 0 ≤ s.gs.getD t 0 ∧ s.gs.getD t 0 ≤ s.cs.length := by
  have := h.gl
  have e : s.gs.getD t 0 = s.gs[t] := by simp [List.getD, show t < s.gs.length by omega]
  rw [e]; exact h.gb _ (List.getElem_mem _)
theorem idx_range (v : Int) (l : List Int) : idx v l = -1 ∨ (0 ≤ idx v l ∧ idx v l < l.length) := by
  unfold idx; split
  · rename_i h; right; have := List.idxOf_lt_length_of_mem h; omega
  · left; rfl
theorem nodup_le {α : Type} [BEq α] [LawfulBEq α] : ∀ (l L : List α), l.Nodup → (∀ x ∈ l, x ∈ L) → l.length ≤ L.length
  | [], _, _, _ => Nat.zero_le _
  | x :: l, L, hn, hs => by
    obtain ⟨hx, hn'⟩ := List.nodup_cons.1 hn
    have hxL := hs x (by simp)
    have := nodup_le l (L.erase x) hn' (fun y hy => (List.mem_erase_of_ne (by intro e; subst e; exact hx hy)).2 (hs y (by simp [hy])))
    rw [List.length_erase_of_mem hxL] at this
    have : 0 < L.length := List.length_pos_of_mem hxL
    simp; omega
/-- A list of different threads, 1 to 8, is no longer than 8. -/
theorem threads_le (l : List Int) (hn : l.Nodup) (hr : ∀ x ∈ l, 1 ≤ x ∧ x ≤ 8) : l.length ≤ 8 := by
  have hs : ∀ x ∈ l, x ∈ ([1, 2, 3, 4, 5, 6, 7, 8] : List Int) := by
    intro x hx
    have := hr x hx
    have : x = 1 ∨ x = 2 ∨ x = 3 ∨ x = 4 ∨ x = 5 ∨ x = 6 ∨ x = 7 ∨ x = 8 := by omega
    simpa using this
  exact nodup_le l _ hn hs
theorem Ok.addQ {s : St} (h : Ok s) (t b : Int) (ht : 1 ≤ t ∧ t ≤ 8) (hb : -9223372036854775808 ≤ b ∧ b ≤ 9223372036854775807) (hw : waits s t = false) : Ok { s with q := s.q ++ [(t, b)] } := by
  have hqt : ∀ x ∈ s.q ++ [(t, b)], 1 ≤ x.1 ∧ x.1 ≤ 8 := by
    intro x hx
    rcases List.mem_append.1 hx with h1 | h1
    · exact h.qt x h1
    · simp at h1; subst h1; exact ht
  have hnd : ((s.q ++ [(t, b)]).map (·.1)).Nodup := by
    rw [List.map_append, List.nodup_append]
    refine ⟨h.nd, by simp, ?_⟩
    intro a ha c hc hac
    simp at hc; subst hc; subst hac
    obtain ⟨y, hy, e⟩ := List.mem_map.1 ha
    unfold waits at hw
    rw [List.any_eq_false] at hw
    exact hw y hy (by simp [e])
  refine ⟨h.len, h.gl, hqt, ?_, ?_, hnd, h.gb⟩
  · intro x hx
    rcases List.mem_append.1 hx with h1 | h1
    · exact h.qb x h1
    · simp at h1; subst h1; exact hb
  · have := threads_le _ hnd (by intro x hx; obtain ⟨y, hy, e⟩ := List.mem_map.1 hx; subst e; exact hqt y hy)
    simpa using this
theorem Ok.sub {s : St} (h : Ok s) {q' : List (Int × Int)} (hs : q'.Sublist s.q) : Ok { s with q := q' } :=
  ⟨h.len, h.gl, fun x hx => h.qt x (hs.subset hx), fun x hx => h.qb x (hs.subset hx), Nat.le_trans hs.length_le h.ql, (hs.map _).nodup h.nd, h.gb⟩
end Go.Proofs.Ytdncodandmjknaa.Ap
