/-
  THE DOCUMENT's ALLOCATOR (dappleref12), on the machine of AllocPure: New, Ask.
-/
import Derived.Test.YtdncodandmjknaaAlloc5
import Derived.Test.YtdncodandmjknaaHeap2
set_option linter.unusedVariables false
set_option linter.unusedSimpArgs false
set_option maxRecDepth 100000
namespace Go.Proofs.Ytdncodandmjknaa.R12
open Go.RowKit Go.Proofs.Ytdncodandmjknaa.Hp Go.Proofs.Ytdncodandmjknaa.Sm Go.Proofs.Ytdncodandmjknaa.Ap Go.Proofs.Ytdncodandmjknaa.Al

/-- Of each cell who has it: 0 nobody, -1 it is out, else the thread to which it is given. -/
structure RW (s : St) (l : List Int) : Prop where
  len : l.length = s.cs.length
  v0 : ∀ i, i < l.length → s.cs.getD i 0 = 0 → l.getD i 0 = 0
  v1 : ∀ i, i < l.length → s.cs.getD i 0 = 1 → l.getD i 0 = -1
  v2 : ∀ i, i < l.length → s.cs.getD i 0 = 2 → ∃ t : Nat, l.getD i 0 = t ∧ 1 ≤ t ∧ t ≤ 8 ∧ s.gs.getD t 0 = i + 1
theorem RW.zero {s : St} {l : List Int} (h : RW s l) (inv : Inv s) (i : Nat) (hi : i < l.length) : l.getD i 0 = 0 ↔ s.cs.getD i 0 = 0 := by
  constructor
  · intro e
    rcases v3_at inv i (by rw [← h.len]; exact hi) with h1 | h1 | h1
    · exact h1
    · have := h.v1 i hi h1; omega
    · obtain ⟨t, h2, h3, _⟩ := h.v2 i hi h1; omega
  · exact h.v0 i hi
theorem RW.out {s : St} {l : List Int} (h : RW s l) (inv : Inv s) (i : Nat) (hi : i < l.length) : l.getD i 0 = -1 ↔ s.cs.getD i 0 = 1 := by
  constructor
  · intro e
    rcases v3_at inv i (by rw [← h.len]; exact hi) with h1 | h1 | h1
    · have := h.v0 i hi h1; omega
    · exact h1
    · obtain ⟨t, h2, h3, _⟩ := h.v2 i hi h1; omega
  · exact h.v1 i hi
theorem RW.given {s : St} {l : List Int} (h : RW s l) (inv : Inv s) (i t : Nat) (hi : i < l.length) (ht : 1 ≤ t ∧ t ≤ 8) : l.getD i 0 = t ↔ s.gs.getD t 0 = i + 1 := by
  constructor
  · intro e
    rcases v3_at inv i (by rw [← h.len]; exact hi) with h1 | h1 | h1
    · have := h.v0 i hi h1; omega
    · have := h.v1 i hi h1; omega
    · obtain ⟨u, h2, h3, h4, h5⟩ := h.v2 i hi h1
      obtain rfl : t = u := by omega
      exact h5
  · intro e
    have h2 := inv.g1 t (by omega) (by omega)
    rw [e, show ((i : Int) + 1 - 1).toNat = i by omega] at h2
    obtain ⟨u, h3, h4, h5, h6⟩ := h.v2 i hi h2
    have := inv.g3 t u (by omega) (by omega) (by omega) (by omega)
    omega
theorem RW.mkNew (n : Nat) : RW (Al.new n) (List.replicate n 0) := by
  have hr : ∀ m t : Nat, (List.replicate m (0 : Int)).getD t 0 = 0 := by
    intro m t; rw [List.getD_eq_getElem?_getD, List.getElem?_replicate]; split <;> rfl
  refine ⟨by simp [Al.new], fun i _ _ => hr n i, fun i _ h => ?_, fun i _ h => ?_⟩
  · have : (Al.new n).cs.getD i 0 = 0 := hr n i
    omega
  · have : (Al.new n).cs.getD i 0 = 0 := hr n i
    omega
theorem RW.take {s : St} {l : List Int} (h : RW s l) (inv : Inv s) (i t : Nat) (hi : i < l.length) (ht : 1 ≤ t ∧ t ≤ 8) (e : s.gs.getD t 0 = i + 1) : RW { s with gs := s.gs.set t 0, cs := s.cs.set i 1 } (l.set i (-1)) := by
  have hgl := inv.ok.gl
  have hl := h.len
  refine ⟨by simp [h.len], fun j hj h0 => ?_, fun j hj h0 => ?_, fun j hj h0 => ?_⟩
  all_goals
    simp only [List.length_set] at hj
    simp only [getD_set] at h0 ⊢
  · by_cases c : i = j ∧ i < s.cs.length
    · rw [if_pos c] at h0; omega
    · rw [if_neg c] at h0; rw [if_neg (by omega)]; exact h.v0 j hj h0
  · by_cases c : i = j ∧ i < s.cs.length
    · rw [if_pos (by omega)]
    · rw [if_neg c] at h0; rw [if_neg (by omega)]; exact h.v1 j hj h0
  · by_cases c : i = j ∧ i < s.cs.length
    · rw [if_pos c] at h0; omega
    · rw [if_neg c] at h0; rw [if_neg (by omega)]
      obtain ⟨u, h1, h2, h3, h4⟩ := h.v2 j hj h0
      refine ⟨u, h1, h2, h3, ?_⟩
      rw [if_neg (fun q => by rw [← q.1, e] at h4; omega)]
      exact h4
theorem RW.setC {s : St} {l : List Int} (h : RW s l) (i : Nat) (v u : Int) (hv : (v = 0 ∧ u = 0) ∨ (v = 1 ∧ u = -1)) : RW { s with cs := s.cs.set i v } (l.set i u) := by
  have hl := h.len
  refine ⟨by simp [h.len], fun j hj h0 => ?_, fun j hj h0 => ?_, fun j hj h0 => ?_⟩
  all_goals
    simp only [List.length_set] at hj
    simp only [getD_set] at h0 ⊢
    by_cases c : i = j ∧ i < s.cs.length
  · rw [if_pos c] at h0; rw [if_pos (by omega)]; omega
  · rw [if_neg c] at h0; rw [if_neg (by omega)]; exact h.v0 j hj h0
  · rw [if_pos c] at h0; rw [if_pos (by omega)]; omega
  · rw [if_neg c] at h0; rw [if_neg (by omega)]; exact h.v1 j hj h0
  · rw [if_pos c] at h0; omega
  · rw [if_neg c] at h0; rw [if_neg (by omega)]; exact h.v2 j hj h0
theorem RW.give {s : St} {l : List Int} (h : RW s l) (inv : Inv s) (i t : Nat) (hi : i < l.length) (h1 : s.cs.getD i 0 = 1) (ht : 1 ≤ t ∧ t ≤ 8) (hg : s.gs.getD t 0 = 0) (q' : List (Int × Int)) : RW { cs := s.cs.set i 2, gs := s.gs.set t (i + 1), q := q' } (l.set i t) := by
  have hgl := inv.ok.gl
  have hl := h.len
  refine ⟨by simp [h.len], fun j hj h0 => ?_, fun j hj h0 => ?_, fun j hj h0 => ?_⟩
  all_goals
    simp only [List.length_set] at hj
    simp only [getD_set] at h0 ⊢
    by_cases c : i = j ∧ i < s.cs.length
  · rw [if_pos c] at h0; omega
  · rw [if_neg c] at h0; rw [if_neg (by omega)]; exact h.v0 j hj h0
  · rw [if_pos c] at h0; omega
  · rw [if_neg c] at h0; rw [if_neg (by omega)]; exact h.v1 j hj h0
  · rw [if_pos (by omega)]
    exact ⟨t, rfl, ht.1, ht.2, by rw [if_pos (by omega), c.1]⟩
  · rw [if_neg c] at h0; rw [if_neg (by omega)]
    obtain ⟨u, k1, k2, k3, k4⟩ := h.v2 j hj h0
    refine ⟨u, k1, k2, k3, ?_⟩
    rw [if_neg (fun q => by rw [← q.1, hg] at k4; omega)]
    exact k4
theorem RW.q {s : St} {l : List Int} (h : RW s l) (q' : List (Int × Int)) : RW { s with q := q' } l := ⟨h.len, h.v0, h.v1, h.v2⟩

structure RH (w : World) (p c : Nat) (l : List Int) (qv : Value) : Prop where
  blk : w.heap[p]? = some (.cells #[.slice (some ⟨c, 0, none⟩) l.length l.length, qv] 78 (0, 0))
  cel : w.heap[c]? = some (.cells (ints .i64 l).toArray 3 (0, 0))
  ne : p ≠ c
theorem RH.ch {w w' : World} {p c : Nat} {l : List Int} {qv : Value} {S : List Nat} (h : RH w p c l qv) (hc : Ch S w w') (hp : p ∉ S) (hcc : c ∉ S) : RH w' p c l qv := ⟨hc.heap h.blk hp, hc.heap h.cel hcc, h.ne⟩
theorem RH.setC {w : World} {p c : Nat} {l : List Int} {qv : Value} (h : RH w p c l qv) (i : Nat) (v : Int) : RH (w.setCell ⟨c, i, none⟩ (.int .i64 v)) p c (l.set i v) qv := by
  refine ⟨by rw [List.length_set]; exact (heap_set_ne h.ne).trans h.blk, ?_, h.ne⟩
  rw [heap_set h.cel]
  congr 2
  apply Array.ext'
  simp [ints]
theorem RH.setQ {w : World} {p c : Nat} {l : List Int} {qv : Value} (h : RH w p c l qv) (v : Value) : RH (w.setCell ⟨p, 1, none⟩ v) p c l v :=
  ⟨by rw [heap_set h.blk]; rfl, (heap_set_ne (fun e => h.ne e.symm)).trans h.cel, h.ne⟩

structure Rs (w : World) (p c : Nat) (qs : List Nat) (s : St) : Prop where
  hd : ∃ l qv, RW s l ∧ RH w p c l qv ∧ Row w 101 2 qv qs s.q.length (wcells s.q)
  qne : ∀ q ∈ qs, q ≠ p ∧ q ≠ c ∧ q < w.heap.size
theorem Rs.lt {w : World} {p c : Nat} {qs : List Nat} {s : St} (h : Rs w p c qs s) : p < w.heap.size ∧ c < w.heap.size ∧ p ≠ c := by
  obtain ⟨l, qv, _, h1, _⟩ := h.hd
  exact ⟨lt_of h1.blk, lt_of h1.cel, h1.ne⟩
theorem Rs.ch {w w' : World} {p c : Nat} {qs : List Nat} {s : St} {S : List Nat} (h : Rs w p c qs s) (hc : Ch S w w') (hp : p ∉ S) (hcc : c ∉ S) (hq : ∀ q ∈ qs, q ∉ S) : Rs w' p c qs s := by
  obtain ⟨⟨l, qv, h1, h2, h3⟩, h4⟩ := h
  exact ⟨⟨l, qv, h1, h2.ch hc hp hcc, h3.ch hc hq⟩, fun q hm => ⟨(h4 q hm).1, (h4 q hm).2.1, Nat.lt_of_lt_of_le (h4 q hm).2.2 hc.size⟩⟩
theorem Rs.mk' {w : World} {p c : Nat} {qs : List Nat} {s : St} {l : List Int} {qv : Value} (h1 : RW s l) (h2 : RH w p c l qv) (h3 : Row w 101 2 qv qs s.q.length (wcells s.q)) (h4 : ∀ q ∈ qs, q ≠ p ∧ q ≠ c ∧ q < w.heap.size) : Rs w p c qs s := ⟨⟨l, qv, h1, h2, h3⟩, h4⟩
/-- What the walk reads. -/
theorem RH.open {w : World} {p c : Nat} {l : List Int} {ao : Option Addr} {n cap : Nat} (h : RH w p c l (.slice ao n cap)) : w.cell? ⟨p, 0, none⟩ = some (.slice (some ⟨c, 0, none⟩) l.length l.length) ∧ w.cell? ⟨p, 1, none⟩ = some (.slice ao n cap) ∧
    (∀ j, j < l.length → w.cell? ⟨c, j, none⟩ = some (.int .i64 (l.getD j 0))) ∧ (∀ i, w.frozen? ⟨p, i, none⟩ = false) ∧ (∀ i, w.frozen? ⟨c, i, none⟩ = false) :=
  ⟨cell_at h.blk, cell_at h.blk, fun j hj => by rw [cell_at h.cel, List.getElem?_toArray]; exact ints_get hj, fun i => free_at h.blk, fun i => free_at h.cel⟩

theorem New_bad (w : World) (n : Int) (h : n < 4 ∨ 4096 < n) :
    Calls Try.prog 8 #[.int .i64 n] w fun e w' => e = .returned (.tuple #[.pointer none, .int .i64 120]) ∧ w = w' := by
  rcases h with h | h
  · go_enter Try.func8, Try.ntmps8
    go_wp2_with fail
    go_ret2
    exact ⟨rfl, rfl⟩
  · go_enter Try.func8, Try.ntmps8
    go_wp2_with fail
    go_ret2
    exact ⟨rfl, rfl⟩
theorem run_make_ints (w : World) (n : Nat) (h : n ≤ 4096) : (Instr.makeSlice 65 (.int .i64 (n : Int)) (.int .i64 (n : Int))).run Try.prog w = .ok (.slice (some ⟨w.heap.size, 0, none⟩) n n) (w.alloc (.cells (ints .i64 (List.replicate n 0)).toArray 3)) := by
  obtain ⟨i, hi, he⟩ := Option.map_eq_some_iff.1 info3
  simp only [Prod.mk.injEq] at he
  obtain ⟨e1, e2, e3⟩ := he
  have := run_make (P := Try.prog) w 65 3 i _ Try.underlying65 hi e1 .i64 .i64 n n (by omega) (by omega) (by rw [e3]; omega) (by omega)
  rw [this, e2]
  have e4 : (Value.int .i64 0).cells = #[.int .i64 0] := rfl
  simp only [Int.toNat_natCast]
  rw [e4, Nat.mul_one, made_ints]
theorem New_any (w : World) (n : Nat) (h4 : 4 ≤ n) (h4096 : n ≤ 4096) :
    Calls Try.prog 8 #[.int .i64 n] w fun e w' => ∃ p c, e = .returned (.tuple #[.pointer (some ⟨p, 0, none⟩), .int .i64 0]) ∧ Rs w' p c [] (new n) ∧ Ch [] w w' ∧ w.heap.size ≤ p ∧ w.heap.size ≤ c := by
  have hmk : ∀ w : World, _ := fun w => run_make_ints w n h4096
  go_enter Try.func8, Try.ntmps8
  go_wp2_with fail
  go_ret2
  refine ⟨w.heap.size + 1, w.heap.size, rfl, Rs.mk' (RW.mkNew n) ⟨?_, heap_old (heap_new w _), by omega⟩ (Row.nil _ _ _ _) (fun q hq => by cases hq), ((Ch.refl _ w).alloc _).alloc _, by omega, by omega⟩
  have hh := heap_new (w.alloc (.cells (ints .i64 (List.replicate n 0)).toArray 3)) (.cells #[.slice (some ⟨w.heap.size, 0, none⟩) n n, .slice none 0 0] 78)
  rw [show (w.alloc (.cells (ints .i64 (List.replicate n 0)).toArray 3)).heap.size = w.heap.size + 1 by simp] at hh
  simpa using hh
end Go.Proofs.Ytdncodandmjknaa.R12
