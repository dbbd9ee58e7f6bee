/-
  THE WALKS of package cells (one goroutine): each call comes to the list of CellsPure; of old memory the heap's row of pointers alone may change.
-/
import Derived.Test.YtefamhdkfdgdjaaDoorQAtomPtr
import Derived.Test.YtefamhdkfdgdjaaDoorQCellsPure
import Derived.Deep.OwnRows
import Derived.Deep.QuietTactic
import Derived.BigQuiet
set_option linter.unusedVariables false
set_option linter.unusedSimpArgs false
set_option maxRecDepth 100000
namespace Go.Proofs.YtefamhdkfdgdjaaDoor.Cl
open Go.RowKit Go.Proofs.YtefamhdkfdgdjaaDoor.Hp Go.Proofs.YtefamhdkfdgdjaaDoor.Ato Go.Proofs.YtefamhdkfdgdjaaDoor.Cp

def cel (x : Cel) : Array Value := #[.int .u8 x.k, .int .u8 x.c, .int .u64 x.a, .int .u64 x.b]
/-- What a pointer of the row leads to: nowhere, where the cell is free; else a block that holds the cell. -/
def At (w : World) (s : Nat) (F : List Nat) (po : Option Addr) (x : Cel) : Prop := (x = free ∧ po = none) ∨ (x ≠ free ∧ ∃ b, (b ∈ F ∧ b ≠ s) ∧ po = some ⟨b, 0, none⟩ ∧ w.heap[b]? = some (.cells (cel x) 86 (0, 0)))
structure Is (w : World) (p s : Nat) (F : List Nat) (l : List Cel) : Prop where
  hp : w.heap[p]? = some (.cells #[.slice (some ⟨s, 0, none⟩) l.length l.length] 131 (0, 0))
  row : ∃ arr, w.heap[s]? = some (.cells arr 141 (0, 0)) ∧ arr.size = l.length ∧ ∀ i, i < l.length → ∃ po, arr[i]? = some (.pointer po) ∧ At w s F po (l.getD i free)
  ne : p ≠ s
  pf : p ∈ F
  sf : s ∈ F
  lt : ∀ x ∈ F, x < w.heap.size
  len : 4 ≤ l.length ∧ l.length ≤ 4096
  ok : ∀ x ∈ l, OkC x

theorem At.ch {w w' : World} {s : Nat} {F F' : List Nat} {po : Option Addr} {x : Cel} {S : List Nat} (h : At w s F po x) (hc : Ch S w w') (hF : ∀ b ∈ F, b ≠ s → b ∉ S) (hF' : ∀ b ∈ F, b ∈ F') : At w' s F' po x :=
  h.imp id fun ⟨h1, b, h2, h3, h4⟩ => ⟨h1, b, ⟨hF' b h2.1, h2.2⟩, h3, hc.heap h4 (hF b h2.1 h2.2)⟩
theorem At.slot {w : World} {s : Nat} {F : List Nat} {po : Option Addr} {x : Cel} (h : At w s F po x) : Slot w po :=
  h.imp (fun h => h.2) fun ⟨_, b, _, h3, h4⟩ => ⟨b, _, h3, h4, rfl⟩
theorem At.used {w : World} {s : Nat} {F : List Nat} {po : Option Addr} {x : Cel} (h : At w s F po x) (ok : OkC x) : (x.k != 0) = po.isSome := by
  rcases h with ⟨rfl, rfl⟩ | ⟨hne, b, _, rfl, _⟩
  · rfl
  · rcases ok with h | ⟨h, _⟩
    · exact absurd h hne
    · simp; omega

theorem is_any (w : World) (p s : Nat) (F : List Nat) (l : List Cel) (i : Int) (h : Is w p s F l) :
    Calls Tryd.prog 68 #[.pointer (some ⟨p, 0, none⟩), .int .i64 i] w fun e w' => e = .returned (.bool (isC l i)) ∧ w = w' := by
  have hc := cell_at (i := 0) h.hp
  have ln := h.len
  unfold isC
  simp only [List.getElem?_toArray, List.getElem?_cons_zero] at hc
  clear h
  generalize l.length = n at *
  by_cases c : 0 ≤ i
  · have cd : decide (0 ≤ i) = true := by simp [c]
    rw [cd, Bool.true_and]
    clear cd
    go_enter Tryd.func68, Tryd.ntmps68
    go_wp2
    go_ret
    exact ⟨rfl, rfl⟩
  · have cd : decide (0 ≤ i) = false := by simp; omega
    rw [cd, Bool.false_and]
    clear cd
    go_enter Tryd.func68, Tryd.ntmps68
    go_wp2
    go_ret
    exact ⟨rfl, rfl⟩

theorem Is.ch {w w' : World} {p s : Nat} {F : List Nat} {l : List Cel} {S : List Nat} (h : Is w p s F l) (hc : Ch S w w') (hF : ∀ b ∈ F, b ∉ S) : Is w' p s F l :=
  ⟨hc.heap h.hp (hF p h.pf), by
    obtain ⟨arr, h1, h2, h3⟩ := h.row
    exact ⟨arr, hc.heap h1 (hF s h.sf), h2, fun i hi => by
      obtain ⟨po, h4, h5⟩ := h3 i hi
      exact ⟨po, h4, h5.ch hc (fun b hb _ => hF b hb) (fun b hb => hb)⟩⟩, h.ne, h.pf, h.sf, fun x hx => Nat.lt_of_lt_of_le (h.lt x hx) hc.size, h.len, h.ok⟩
/-- A cell of the heap has another pointer now. -/
theorem Is.put {w w' : World} {p s : Nat} {F F' : List Nat} {l : List Cel} {n : Nat} {x : Cel} {po : Option Addr} {S : List Nat} (h : Is w p s F l) (hn : n < l.length) (hc : Ch S w w') (hS : ∀ b ∈ F, b ≠ s → b ∉ S)
    (hs : ∀ arr t, w.heap[s]? = some (.cells arr t (0, 0)) → w'.heap[s]? = some (.cells (arr.setIfInBounds n (.pointer po)) t (0, 0))) (hat : At w' s F' po x) (hok : OkC x)
    (hF : ∀ b ∈ F, b ∈ F') (hl : ∀ b ∈ F', b < w'.heap.size) : Is w' p s F' (l.set n x) :=
  ⟨by rw [List.length_set]; exact hc.heap h.hp (hS p h.pf h.ne), by
    obtain ⟨arr, h1, h2, h3⟩ := h.row
    refine ⟨_, hs arr _ h1, by simp [h2], fun i hi => ?_⟩
    rw [List.length_set] at hi
    by_cases e : i = n
    · subst e
      refine ⟨po, Array.getElem?_setIfInBounds_self_of_lt (by omega), ?_⟩
      have : (l.set i x).getD i free = x := by simp [List.getD, hi]
      rw [this]; exact hat
    · obtain ⟨q, h4, h5⟩ := h3 i hi
      refine ⟨q, by rw [Array.getElem?_setIfInBounds_ne (by omega)]; exact h4, ?_⟩
      have : (l.set n x).getD i free = l.getD i free := by simp [List.getD, List.getElem?_set_ne (show n ≠ i by omega)]
      rw [this]
      exact h5.ch hc hS hF, h.ne, hF _ h.pf, hF _ h.sf, hl, by rw [List.length_set]; exact h.len, fun y hy => by
    rcases List.mem_or_eq_of_mem_set hy with h' | h'
    · exact h.ok y h'
    · subst h'; exact hok⟩
/-- What a call leaves of a heap: the list is now l'. -/
def To (w w' : World) (p s : Nat) (F : List Nat) (l' : List Cel) : Prop := ∃ F', Is w' p s F' l' ∧ Ch [s] w w' ∧ ∀ b ∈ F', b ∈ F ∨ w.heap.size ≤ b
theorem Is.to {w w' : World} {p s : Nat} {F : List Nat} {l : List Cel} (h : Is w p s F l) (hc : Ch [] w w') : To w w' p s F l :=
  ⟨F, h.ch hc (by simp), hc.mono (by simp), fun b hb => .inl hb⟩

theorem isC_nat {l : List Cel} {i : Int} (h : isC l i = true) : ∃ n : Nat, i = n ∧ n < l.length := by
  unfold isC at h
  simp only [Bool.and_eq_true, decide_eq_true_eq] at h
  obtain ⟨n, rfl⟩ := Int.eq_ofNat_of_zero_le h.1
  exact ⟨n, rfl, by omega⟩
theorem get_nat (l : List Cel) (n : Nat) : Cp.get l n = l.getD n free := by simp [Cp.get]

/-- The pointer of a cell of the heap, and what the walk reads on its way to it. -/
theorem Is.slot {w : World} {p s : Nat} {F : List Nat} {l : List Cel} (h : Is w p s F l) (n : Nat) (hn : n < l.length) : ∃ po, w.cell? ⟨p, 0, none⟩ = some (.slice (some ⟨s, 0, none⟩) l.length l.length) ∧ w.cell? ⟨s, n, none⟩ = some (.pointer po) ∧ w.frozen? ⟨s, n, none⟩ = false ∧ At w s F po (l.getD n free) ∧ OkC (l.getD n free) := by
  obtain ⟨arr, h1, h2, h3⟩ := h.row
  obtain ⟨po, h4, h5⟩ := h3 n hn
  refine ⟨po, cell_at (i := 0) h.hp, (cell_at h1).trans h4, free_at h1, h5, h.ok _ ?_⟩
  have : l.getD n free = l[n] := by simp [List.getD, hn]
  rw [this]; exact List.getElem_mem hn

theorem Head_any (w : World) (p s : Nat) (F : List Nat) (l : List Cel) (i : Int) (h : Is w p s F l) :
    Calls Tryd.prog 22 #[.pointer (some ⟨p, 0, none⟩), .int .i64 i] w fun e w' => e = .returned (.tuple #[.int .u8 (headK l i), .int .u8 (headC l i), .int .i64 (headE l i)]) ∧ ∃ d, w' = w.drewN d := by
  have H := is_any w p s F l i h
  cases hi : isC l i
  · have e : headK l i = 0 ∧ headC l i = 0 ∧ headE l i = 1 := by simp [headK, headC, headE, hi]
    rw [e.1, e.2.1, e.2.2]; rw [hi] at H
    clear h e hi
    go_enter Tryd.func22, Tryd.ntmps22
    go_wp2_with (go_at_call 68; refine H.mono ?_; rintro e w' ⟨rfl, rfl⟩)
    go_ret3
    exact ⟨rfl, 0, rfl⟩
  · rw [hi] at H
    obtain ⟨n, rfl, hn⟩ := isC_nat hi
    obtain ⟨po, o1, o2, o3, o4, o5⟩ := h.slot n hn
    have e : headK l n = (l.getD n free).k ∧ headC l n = (l.getD n free).c ∧ headE l n = 0 := by simp only [headK, headC, headE, hi, if_true, get_nat, and_self]
    rw [e.1, e.2.1, e.2.2]
    have ln := h.len
    generalize l.getD n free = x at *
    generalize l.length = L at *
    have L1 := Load_any w s n po o2 o4.slot
    rcases o4 with ⟨rfl, rfl⟩ | ⟨hne, b, hb, rfl, hh⟩
    · clear h e hi
      go_enter Tryd.func22, Tryd.ntmps22
      go_wp2_with (first | (go_at_call 68; refine H.mono ?_; rintro e w' ⟨rfl, rfl⟩) | (go_at_call 70; refine L1.mono ?_; rintro e w' ⟨rfl, rfl⟩))
      go_ret3
      exact ⟨rfl, 0, rfl⟩
    · have k0 := cell_at (i := 0) hh
      have k1 := cell_at (i := 1) hh
      simp only [cel, List.getElem?_toArray, List.getElem?_cons_zero, List.getElem?_cons_succ] at k0 k1
      clear h e hi hne hh
      generalize x.k = xk at *
      generalize x.c = xc at *
      clear o5
      go_enter Tryd.func22, Tryd.ntmps22
      go_wp2_with (first | (go_at_call 68; refine H.mono ?_; rintro e w' ⟨rfl, rfl⟩) | (go_at_call 70; refine L1.mono ?_; rintro e w' ⟨rfl, rfl⟩))
      go_quiet (fail)
      go_wp2_with fail
      go_ret3
      exact ⟨rfl, _, rfl⟩
end Go.Proofs.YtefamhdkfdgdjaaDoor.Cl
