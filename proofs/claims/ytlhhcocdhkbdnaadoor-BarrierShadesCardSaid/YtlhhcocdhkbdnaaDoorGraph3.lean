/-
  THE WALK of graph.order.
-/
import Derived.Test.YtlhhcocdhkbdnaaDoorGraph2
set_option linter.unusedVariables false
set_option linter.unusedSimpArgs false
set_option maxRecDepth 100000
namespace Go.Proofs.YtlhhcocdhkbdnaaDoor.Gr
open Go.RowKit Go.Proofs.YtlhhcocdhkbdnaaDoor.Wd Go.Proofs.YtlhhcocdhkbdnaaDoor.Hp Go.Proofs.YtlhhcocdhkbdnaaDoor.Gp Go.Proofs.YtlhhcocdhkbdnaaDoor.Sm

def bv (l : List Bool) : List Value := l.map Value.bool
def nv (l : List Nat) : List Value := l.map fun (c : Nat) => .int .i64 (c : Int)
theorem bv_len (l : List Bool) : (bv l).length = l.length := by simp [bv]
theorem nv_len (l : List Nat) : (nv l).length = l.length := by simp [nv]
theorem nv_snoc (l : List Nat) (c : Nat) : nv (l ++ [c]) = nv l ++ [.int .i64 c] := by simp [nv]
theorem bv_at (l : List Bool) (c : Nat) (h : c < l.length) : (bv l)[c]? = some (.bool (l.getD c true)) := by simp [bv, h]
theorem nv_at (l : List Nat) (c : Nat) (h : c < l.length) : (nv l)[c]? = some (.int .i64 (l.getD c 0)) := by simp [nv, h]
theorem bv_set (l : List Bool) (c : Nat) (b : Bool) : (bv l).toArray.setIfInBounds c (.bool b) = (bv (l.set c b)).toArray := by
  simp [bv, List.map_set]
theorem infoBool : (Tryd.prog.info? 4).map (fun i => (i.zero, i.size, i.bytes)) = some (some (.bool false), 1, 1) := by kernel_rfl
theorem infoInt : (Tryd.prog.info? 3).map (fun i => (i.zero, i.size, i.bytes)) = some (some (.int .i64 0), 1, 8) := by kernel_rfl
theorem made_one (v : Value) : ∀ n : Nat, madeCells #[v] n = (List.replicate n v).toArray := by
  intro n
  apply Array.ext_getElem?
  intro i
  by_cases h : i < n
  · simp [madeCells, h, Nat.mod_one]
  · simp [madeCells, h]
theorem run_make_bools (w : World) (n : Nat) (h : n ≤ 1000000) : (Instr.makeSlice 73 (.int .i64 (n : Int)) (.int .i64 (n : Int))).run Tryd.prog w = .ok (.slice (some ⟨w.heap.size, 0, none⟩) n n) (w.alloc (.cells (bv (List.replicate n false)).toArray 4)) := by
  obtain ⟨i, hi, he⟩ := Option.map_eq_some_iff.1 infoBool
  simp only [Prod.mk.injEq] at he
  obtain ⟨e1, e2, e3⟩ := he
  have := run_make (P := Tryd.prog) w 73 4 i _ Tryd.underlying73 hi e1 .i64 .i64 n n (by omega) (by omega) (by rw [e3]; omega) (by omega)
  rw [this, e2]
  have e4 : (Value.bool false).cells = #[.bool false] := rfl
  simp only [Int.toNat_natCast]
  rw [e4, Nat.mul_one, made_one, show bv (List.replicate n false) = List.replicate n (.bool false) by simp [bv]]

structure MS (pm pr mb n : Nat) (w : World) (s : St) (T : List Nat) : Prop where
  inv : Inv n s
  hpm : w.heap[pm]? = some (.cells #[.slice (some ⟨mb, 0, none⟩) n n] 73 (0, 0))
  hmb : w.heap[mb]? = some (.cells (bv s.1).toArray 4 (0, 0))
  ne : pm ≠ pr ∧ pm ≠ mb ∧ pr ≠ mb
  row : ∃ qs v, T = pr :: mb :: qs ∧ w.heap[pr]? = some (.cells #[v] 50 (0, 0)) ∧ Row w 3 1 v qs s.2.length (nv s.2) ∧ ∀ q ∈ qs, (q ≠ pm ∧ q ≠ pr ∧ q ≠ mb) ∧ q < w.heap.size
theorem MS.ch {pm pr mb n : Nat} {w w' : World} {s : St} {T : List Nat} (h : MS pm pr mb n w s T) (hc : Ch [] w w') : MS pm pr mb n w' s T := by
  obtain ⟨a, b, c, d, qs, v, e, f, g, i⟩ := h
  exact ⟨a, hc.heap b (by simp), hc.heap c (by simp), d, qs, v, e, hc.heap f (by simp), g.ch hc (by simp), fun q hq => ⟨(i q hq).1, Nat.lt_of_lt_of_le (i q hq).2 hc.size⟩⟩
theorem each_all {α : Type} {f : α → Nat → α} {P : α → Prop} {ok : Nat → Prop} (hf : ∀ s c, P s → ok c → P (f s c)) : ∀ (l : List Int) (s : α), P s → (∀ v ∈ l, isRef v = true → ok (cellN v).toNat) → P (eachW f s l)
  | [], s, h, _ => h
  | x :: l, s, h, hk => by
    show P (eachW f (if isRef x then f s (cellN x).toNat else s) l)
    refine each_all hf l _ ?_ (fun v hv => hk v (by simp [hv]))
    split
    · next hr => exact hf s _ h (hk x (by simp) hr)
    · exact h
theorem isWord_ok {w : Int} {n : Nat} (h : isWord w n = true) (hr : isRef w = true) : (cellN w).toNat < n := by
  unfold isWord at h
  rw [hr] at h
  have := cellN_range w
  simp at h
  omega
theorem may_roots {h : List Cel} {ws : List Int} (hm : may h ws = true) : ∀ v ∈ ws, isRef v = true → (cellN v).toNat < h.length := by
  intro v hv hr
  unfold may at hm
  simp only [Bool.and_eq_true, List.all_eq_true] at hm
  exact isWord_ok (hm.2 v hv) hr
theorem may_cells {h : List Cel} {ws : List Int} (hm : may h ws = true) (c : Nat) (hc : c < h.length) : ∀ v ∈ wordsOf h c, isRef v = true → (cellN v).toNat < h.length := by
  intro v hv hr
  unfold may at hm
  simp only [Bool.and_eq_true] at hm
  have := (all_getD _ _).1 hm.1 c hc
  unfold okCell at this
  unfold wordsOf at hv
  split at hv
  · cases hv
  · next hk =>
    simp only [Bool.and_eq_true, Bool.or_eq_true, beq_iff_eq] at this
    have h2 := this.2.resolve_left hk
    simp at hv
    rcases hv with rfl | rfl
    · exact isWord_ok h2.1 hr
    · exact isWord_ok h2.2 hr
theorem inv_lt {n : Nat} {s : St} (h : Inv n s) (i : Nat) (hi : i < s.2.length) : s.2.getD i 0 < n := by
  have : s.2.getD i 0 ∈ s.2 := by rw [show s.2.getD i 0 = s.2[i] by simp [List.getD, hi]]; exact List.getElem_mem hi
  exact ((h.mem _).1 this).1
/-- What order answers: the row, of each cell whether it is met. -/
def OrdPost (h : List Cel) (ws : List Int) (w : World) (e : Ending) (w' : World) : Prop :=
  ∃ (v : Value) (qs : List Nat) (mb : Nat), e = .returned (.tuple #[v, .slice (some ⟨mb, 0, none⟩) h.length h.length]) ∧ Row w' 3 1 v qs (order h ws).2.length (nv (order h ws).2) ∧ w'.heap[mb]? = some (.cells (bv (order h ws).1).toArray 4 (0, 0)) ∧ Ch [] w w' ∧ w.heap.size ≤ mb ∧ mb ∉ qs ∧ ∀ q ∈ qs, w.heap.size ≤ q
end Go.Proofs.YtlhhcocdhkbdnaaDoor.Gr
