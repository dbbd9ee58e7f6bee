/-
  MEMORY, once for all walks (no program): what a call may have changed (Ch), slices that a walk owns or reads (Row, Rd), stores into a block.
  MEMORY, on (no program): the side conditions of an append, said ahead of a walk; rows that are copied.
  THE WALKS of dappleref00's Same..: two lists are compared.
  MEMORY, on (no program): an append of a list of somebody else's onto nothing; rows that lie apart.
-/
import Derived.WalkKit
import Derived.ArgAppend
import Derived.Laws.IdiomCopy
import Derived.Lib.Hide
import Derived.Deep.Draws
import Derived.Test.YtlhhcocdhkbdnaaDoorProg
import Derived.KernelRfl
import Derived.Deep.QuietTactic
import Derived.BigQuiet
import Derived.Deep.RegionLaw
set_option linter.unusedVariables false
set_option linter.unusedSimpArgs false
namespace Go.Proofs.YtlhhcocdhkbdnaaDoor.Hp
open Go.RowKit

/-- Among the old blocks those of S alone may have changed; blocks may have come. -/
structure Ch (S : List Nat) (w w' : World) : Prop where
  os : w'.os = w.os
  tape : w'.tape = w.tape
  output : w'.output = w.output
  size : w.heap.size ≤ w'.heap.size
  block : ∀ k, k < w.heap.size → k ∉ S → w'.heap[k]? = w.heap[k]?

theorem Ch.refl (S : List Nat) (w : World) : Ch S w w := ⟨rfl, rfl, rfl, Nat.le_refl _, fun _ _ _ => rfl⟩
theorem Ch.mono {S T : List Nat} {a b : World} (h : Ch S a b) (hs : ∀ x ∈ S, x ∈ T) : Ch T a b := ⟨h.os, h.tape, h.output, h.size, fun k hk hn => h.block k hk (fun hm => hn (hs k hm))⟩
theorem Ch.trans {S T : List Nat} {a b c : World} (h : Ch S a b) (k : Ch T b c) (ht : ∀ x ∈ T, x ∈ S ∨ a.heap.size ≤ x) : Ch S a c :=
  ⟨k.os.trans h.os, k.tape.trans h.tape, k.output.trans h.output, Nat.le_trans h.size k.size, fun i hi hn =>
    (k.block i (Nat.lt_of_lt_of_le hi h.size) (fun hm => by rcases ht i hm with h1 | h1; exact hn h1; omega)).trans (h.block i hi hn)⟩
theorem Ch.trans' {S : List Nat} {a b c : World} (h : Ch S a b) (k : Ch S b c) : Ch S a c := h.trans k (fun _ hx => .inl hx)
theorem Ch.trans0 {S : List Nat} {a b c : World} (h : Ch S a b) (k : Ch [] b c) : Ch S a c := h.trans k (fun _ hx => by cases hx)
theorem Ch.alloc {S : List Nat} {a b : World} (h : Ch S a b) (o : Obj) : Ch S a (b.alloc o) :=
  h.trans0 ⟨rfl, rfl, rfl, by simp, fun k hk _ => Below.heap_alloc b o k hk⟩
theorem Ch.drew {S : List Nat} {a b : World} (h : Ch S a b) : Ch S a b.drew := ⟨h.os, h.tape, h.output, h.size, h.block⟩
theorem Ch.drewN {S : List Nat} {a b : World} (h : Ch S a b) (n : Nat) : Ch S a (b.drewN n) := ⟨h.os, h.tape, h.output, h.size, h.block⟩
theorem Ch.setCell {S : List Nat} {a b : World} (h : Ch S a b) (p : Addr) (u : Value) (hp : p.block ∈ S ∨ a.heap.size ≤ p.block) : Ch S a (b.setCell p u) :=
  h.trans (T := [p.block]) ⟨rfl, rfl, rfl, by simp [World.setCell], fun k hk hn => Below.heap_setCell _ _ _ _ (fun e => hn (by simp [e]))⟩ (fun x hx => by simp at hx; subst hx; exact hp)
theorem Ch.of_below {a b : World} (h : Below a.heap.size a b) : Ch [] a b := ⟨h.os, h.tape, h.output, h.size, fun k hk _ => h.block k hk⟩
theorem Ch.below {S : List Nat} {a b : World} {B : Nat} (h : Ch S a b) (hs : ∀ x ∈ S, B ≤ x) (hB : B ≤ a.heap.size) : Below B a b :=
  ⟨h.os, h.tape, h.output, h.size, fun k hk => h.block k (by omega) (fun hm => by have := hs k hm; omega)⟩
theorem Ch.of_grown {a b : World} {row : Option Nat} (h : a.grownBy b row) : Ch row.toList a b := ⟨h.os, h.tape, h.output, h.size, fun k hk hn => h.block k hk (fun e => hn (by simp [← e]))⟩
theorem lt_of {w : World} {k : Nat} {o : Obj} (h : w.heap[k]? = some o) : k < w.heap.size := lt_of_block h
theorem Ch.heap {S : List Nat} {a b : World} {k : Nat} {o : Obj} (h : Ch S a b) (hk : a.heap[k]? = some o) (hn : k ∉ S) : b.heap[k]? = some o := (h.block k (lt_of hk) hn).trans hk
theorem Ch.cell {S : List Nat} {a b : World} {p : Addr} {v : Value} (h : Ch S a b) (hk : a.cell? p = some v) (hn : p.block ∉ S) : b.cell? p = some v :=
  (World.cell?_of_block (h.block p.block (World.block_lt_of_cell? a p hk) hn)).trans hk

theorem Ch.frozen {S : List Nat} {a b : World} {p : Addr} (h : Ch S a b) (hk : p.block < a.heap.size) (hn : p.block ∉ S) : b.frozen? p = a.frozen? p :=
  World.frozen?_of_block (h.block p.block hk hn)

theorem cell_at {w : World} {b i : Nat} {arr : Array Value} {t : TypeId} {fr : Nat × Nat} (h : w.heap[b]? = some (.cells arr t fr)) : w.cell? ⟨b, i, none⟩ = arr[i]? := by simp [World.cell?, h]
theorem free_at {w : World} {b i : Nat} {arr : Array Value} {t : TypeId} (h : w.heap[b]? = some (.cells arr t (0, 0))) : w.frozen? ⟨b, i, none⟩ = false := by simp [World.frozen?, h]
theorem heap_set {w : World} {b i : Nat} {arr : Array Value} {t : TypeId} {fr : Nat × Nat} (h : w.heap[b]? = some (.cells arr t fr)) (u : Value) : (w.setCell ⟨b, i, none⟩ u).heap[b]? = some (.cells (arr.setIfInBounds i u) t fr) := by
  have hlt := lt_of h
  have h' : w.heap[b] = .cells arr t fr := by simpa [Array.getElem?_eq_getElem hlt] using h
  show (w.heap.modify b _)[b]? = _
  rw [Array.getElem?_eq_getElem (by simpa using hlt), Array.getElem_modify_self, h']
  rfl
theorem heap_set_ne {w : World} {b k i : Nat} {u : Value} (h : k ≠ b) : (w.setCell ⟨b, i, none⟩ u).heap[k]? = w.heap[k]? := Below.heap_setCell _ _ _ _ h
theorem heap_new (w : World) (o : Obj) : (w.alloc o).heap[w.heap.size]? = some o := heap_alloc_new w o
theorem heap_old {w : World} {k : Nat} {o o' : Obj} (h : w.heap[k]? = some o) : (w.alloc o').heap[k]? = some o := (Below.heap_alloc w o' k (lt_of h)).trans h

/-- What a slice value reads as: its cells, in one block. -/
def Rd (w : World) (ao : Option Addr) (m : Nat) (xs : List Value) : Prop :=
  xs.length = m ∧ (m = 0 ∨ ∃ b off, ao = some ⟨b, off, none⟩ ∧ ∀ j, j < m → w.cell? ⟨b, off + j, none⟩ = xs[j]?)

theorem Rd.ch {w w' : World} {ao : Option Addr} {m : Nat} {xs : List Value} (h : Rd w ao m xs) (hc : Ch [] w w') : Rd w' ao m xs :=
  ⟨h.1, h.2.imp id fun ⟨b, off, ha, hj⟩ => ⟨b, off, ha, fun j hlt => by
    have := hj j hlt
    rw [List.getElem?_eq_getElem (by rw [h.1]; exact hlt)] at this ⊢
    exact hc.cell this (by simp)⟩⟩

/-- A slice that is the walk's own, in a block of qs (none, or one): n elements of sz cells each, type e; what lies behind it up to its capacity is its own too. -/
def Row (w : World) (e : TypeId) (sz : Nat) (v : Value) (qs : List Nat) (n : Nat) (xs : List Value) : Prop :=
  xs.length = n * sz ∧ ∃ ao cap, v = .slice ao n cap ∧ n ≤ cap ∧ cap ≤ maxLen ∧ (ao = none → cap = 0) ∧
    (cap = 0 ∨ ∃ q off arr, q ∈ qs ∧ ao = some ⟨q, off, none⟩ ∧ w.heap[q]? = some (.cells arr e (0, 0)) ∧ off + cap * sz ≤ arr.size ∧ ∀ j, j < n * sz → arr[off + j]? = xs[j]?)

theorem Row.nil (w : World) (e : TypeId) (sz : Nat) (qs : List Nat) : Row w e sz (.slice none 0 0) qs 0 [] := ⟨by simp, none, 0, rfl, Nat.le_refl _, by simp [maxLen], fun _ => rfl, .inl rfl⟩
theorem Row.keep {w w' : World} {e : TypeId} {sz n : Nat} {qs : List Nat} {v : Value} {xs : List Value} (h : Row w e sz v qs n xs) (hb : ∀ q ∈ qs, ∀ o, w.heap[q]? = some o → w'.heap[q]? = some o) : Row w' e sz v qs n xs := by
  obtain ⟨hl, ao, cap, hv, h1, h2, h3, h4⟩ := h
  refine ⟨hl, ao, cap, hv, h1, h2, h3, ?_⟩
  rcases h4 with h4 | ⟨q, off, arr, hq, ha, hh, hr⟩
  · exact .inl h4
  · exact .inr ⟨q, off, arr, hq, ha, hb q hq _ hh, hr⟩
theorem Row.ch {w w' : World} {S : List Nat} {e : TypeId} {sz n : Nat} {qs : List Nat} {v : Value} {xs : List Value} (h : Row w e sz v qs n xs) (hc : Ch S w w') (hq : ∀ q ∈ qs, q ∉ S) : Row w' e sz v qs n xs := h.keep (fun q hm o ho => hc.heap ho (hq q hm))
theorem Row.rd {w : World} {e : TypeId} {sz n : Nat} {qs : List Nat} {v : Value} {xs : List Value} (h : Row w e sz v qs n xs) : ∃ ao cap, v = .slice ao n cap ∧ n ≤ cap ∧ cap ≤ maxLen ∧ Rd w ao (n * sz) xs := by
  obtain ⟨hl, ao, cap, hv, h1, h2, h3, h4⟩ := h
  refine ⟨ao, cap, hv, h1, h2, hl, ?_⟩
  rcases h4 with h4 | ⟨q, off, arr, hq, ha, hh, hr, hj⟩
  · left; subst h4; obtain rfl : n = 0 := by omega
    simp
  · right; exact ⟨q, off, ha, fun j hlt => (cell_at hh).trans (hj j hlt)⟩

/-- What append leaves of a world: its cells written behind the row. -/
theorem heap_setCells (b : Nat) : ∀ (us : List Value) (off : Nat) (w : World) (arr : Array Value) (t : TypeId) (fr : Nat × Nat), w.heap[b]? = some (.cells arr t fr) → off + us.length ≤ arr.size →
    ∃ arr' : Array Value, (w.setCells b off us).heap[b]? = some (.cells arr' t fr) ∧ arr'.size = arr.size ∧ (∀ j, j < off → arr'[j]? = arr[j]?) ∧ (∀ j, j < us.length → arr'[off + j]? = us[j]?) ∧ Ch [b] w (w.setCells b off us)
  | [], off, w, arr, t, fr, h, _ => ⟨arr, h, rfl, fun _ _ => rfl, fun j hj => by simp at hj, Ch.refl _ _⟩
  | u :: us, off, w, arr, t, fr, h, hs => by
    simp only [List.length_cons] at hs
    have h1 := heap_set (i := off) h u
    obtain ⟨arr', h2, h3, h4, h5, h6⟩ := heap_setCells b us (off + 1) (w.setCell ⟨b, off, none⟩ u) (arr.setIfInBounds off u) t fr h1 (by simp; omega)
    refine ⟨arr', h2, by rw [h3]; simp, fun j hj => ?_, fun j hj => ?_, ?_⟩
    · rw [h4 j (by omega), Array.getElem?_setIfInBounds_ne (by omega)]
    · cases j with
      | zero => rw [Nat.add_zero, h4 off (by omega), Array.getElem?_setIfInBounds_self_of_lt (by omega)]; rfl
      | succ j => rw [show off + (j + 1) = off + 1 + j by omega, h5 j (by simp at hj; omega)]; rfl
    · exact ((Ch.refl [b] w).setCell ⟨b, off, none⟩ u (.inl (by simp))).trans' h6
/-- A row that a law on append has left (new, or the call's own). -/
theorem Row.of_owns {w : World} {base : Nat} {e : TypeId} {sz : Nat} {v : Value} {n : Nat} {xs : List Value} (h : w.ownsRow base e sz v n xs) : (v = .slice none 0 0 ∧ n = 0 ∧ xs = []) ∨ ∃ q, Row w e sz v [q] n xs ∧ base ≤ q ∧ q < w.heap.size := by
  obtain ⟨hl, h | ⟨g, cap, cur, rfl, hb, hg, hn, hm, hs, ht⟩⟩ := h
  · obtain ⟨rfl, rfl⟩ := h
    exact .inl ⟨rfl, rfl, List.eq_nil_of_length_eq_zero (by simpa using hl)⟩
  · refine .inr ⟨g, ⟨hl, _, cap, rfl, hn, hm, (by intro h; cases h), .inr ⟨g, 0, cur, by simp, rfl, hg, by omega, fun j hj => ?_⟩⟩, hb, lt_of hg⟩
    rw [Nat.zero_add, ← ht, List.getElem?_take, if_pos hj]
    simp

/-- APPEND of m elements onto a row of the walk's own, wherever it begins in its block: it is the walk's own behind it; no old block but its own has changed. -/
theorem run_append_row {P : Program} (w : World) (t ty e : TypeId) (i : TypeInfo) (z : Value) (size bytes : Nat) (ht : P.underlying t = some (.slice e)) (hi : P.info? e = some i) (hz : i.zero = some z)
    (hsize : i.size = size) (hby : i.bytes = bytes) (hzs : z.cells.size = size) (hsz : 0 < size)
    {v : Value} {n : Nat} {qs : List Nat} {xs : List Value} (hrow : Row w e size v qs n xs)
    (ad : Addr) (m c : Nat) (news : List Value) (hl : news.length = m * size) (hnews : ∀ j u, news[j]? = some u → w.cell? (ad.add j) = some u) (h1 : ∀ u ∈ news, u.oneCell' = true)
    (h63 : n + m ≤ maxLen) (hbytes : (n + m) * bytes ≤ 140737488355328) :
    ∃ v' w' qs', (Builtin.append_ #[t, t] ty #[v, .slice (some ad) m c]).run P w = .ok v' w' ∧ Row w' e size v' qs' (n + m) (xs ++ news) ∧ Ch qs w w' ∧ (qs' = qs ∨ ∃ q', qs' = [q'] ∧ w.heap.size ≤ q' ∧ q' < w'.heap.size) := by
  subst hsize
  obtain ⟨hlx, ao, cap, rfl, hnc, hcm, hnil, hr⟩ := hrow
  have hlen : (xs ++ news).length = (n + m) * i.size := by rw [List.length_append, hlx, hl, Nat.add_mul]
  by_cases hroom : n + m ≤ cap
  · by_cases hm0 : m = 0 ∧ cap = 0
    · obtain ⟨rfl, rfl⟩ := hm0
      obtain rfl : n = 0 := by omega
      have hf := run_firstCells_some (P := P) w i.size 0 ad 0 c news hl hnews
      have hn0 : news = [] := List.eq_nil_of_length_eq_zero (by simpa using hl)
      subst hn0
      have hx0 : xs = [] := List.eq_nil_of_length_eq_zero (by simpa using hlx)
      subst hx0
      refine ⟨.slice ao 0 0, w, qs, ?_, ⟨by simp, ao, 0, rfl, Nat.le_refl _, hcm, hnil, .inl rfl⟩, Ch.refl _ _, .inl rfl⟩
      cases ao with
      | none => simp [Builtin.append_, run_underlying ht, sizeOf, typeInfo, hi, Builtin.lenOf, hf]
      | some b => simp [Builtin.append_, run_underlying ht, sizeOf, typeInfo, hi, Builtin.lenOf, hf, storeCells]
    · have hcap : cap ≠ 0 := by omega
      obtain ⟨q, off, arr, hq, rfl, hh, hfit, hj⟩ := hr.resolve_left hcap
      have hle : (n + m) * i.size ≤ cap * i.size := Nat.mul_le_mul_right _ hroom
      have hmul : (n + m) * i.size = n * i.size + m * i.size := Nat.add_mul _ _ _
      obtain ⟨arr', g1, g2, g3, g4, g5⟩ := heap_setCells q news (off + n * i.size) w arr e (0, 0) hh (by rw [hl]; omega)
      have hrun := run_append_room_cells (P := P) w t ty e i ht hi q off n cap ad m c news hl hnews h1 hroom
        (fun j hj => by rw [cell_at hh, Array.getElem?_eq_getElem (by omega)]; rfl) (fun j _ => free_at hh)
      refine ⟨_, _, qs, hrun, ⟨hlen, _, cap, rfl, hroom, hcm, (by intro h; cases h), .inr ⟨q, off, arr', hq, rfl, g1, by omega, fun j hj2 => ?_⟩⟩, g5.mono (fun x hx => by simp at hx; subst hx; exact hq), .inl rfl⟩
      by_cases hlt : j < n * i.size
      · rw [g3 _ (by omega), hj j hlt, List.getElem?_append_left (by omega)]
      · rw [List.getElem?_append_right (by omega), hlx]
        have := g4 (j - n * i.size) (by omega)
        rwa [show off + n * i.size + (j - n * i.size) = off + j by omega] at this
  · have fin : ∀ (v' : Value) (w' : World), w'.ownsRow w.heap.size e i.size v' (n + m) (xs ++ news) → w.grownBy w' none → (Builtin.append_ #[t, t] ty #[.slice ao n cap, .slice (some ad) m c]).run P w = .ok v' w' →
        ∃ v' w' qs', (Builtin.append_ #[t, t] ty #[.slice ao n cap, .slice (some ad) m c]).run P w = .ok v' w' ∧ Row w' e i.size v' qs' (n + m) (xs ++ news) ∧ Ch qs w w' ∧ (qs' = qs ∨ ∃ q', qs' = [q'] ∧ w.heap.size ≤ q' ∧ q' < w'.heap.size) := by
      intro v' w' ho hg hrun
      rcases Row.of_owns ho with ⟨_, h0, _⟩ | ⟨q', hr', hq'⟩
      · omega
      · exact ⟨v', w', [q'], hrun, hr', (Ch.of_grown hg).mono (fun x hx => by simp at hx), .inr ⟨q', rfl, hq'⟩⟩
    cases ao with
    | some b =>
      obtain ⟨v', w', hrun, r1, r2⟩ := run_append_arg_grows (P := P) w t ty e i z i.size bytes ht hi hz rfl hby hzs hsz b n cap xs hlx (fun j u hj2 => by
        rcases hr with h0 | ⟨q, off, arr, hq, ha, hh, hfit, hj⟩
        · obtain rfl : n = 0 := by omega
          have : xs = [] := List.eq_nil_of_length_eq_zero (by simpa using hlx)
          subst this; simp at hj2
        · cases ha
          have hjl : j < n * i.size := by rw [← hlx]; rcases Nat.lt_or_ge j xs.length with h | h; exact h; simp [List.getElem?_eq_none h] at hj2
          rw [Addr.add_lit, cell_at hh, hj j hjl]; exact hj2) ad m c news hl hnews (by omega) h63 hbytes
      exact fin v' w' r1 r2 hrun
    | none =>
      obtain rfl := hnil rfl
      obtain rfl : n = 0 := by omega
      obtain rfl : xs = [] := List.eq_nil_of_length_eq_zero (by simpa using hlx)
      obtain ⟨v', w', hrun, r1, r2, _⟩ := run_append_own (P := P) w w.heap.size t ty e i z i.size bytes ht hi hz rfl hby hzs hsz (.slice none 0 0) 0 [] (World.ownsRow_nil w _ e i.size) ad m c news hl hnews h1 h63 hbytes (Nat.le_refl _)
      exact fin v' w' r1 r2 hrun

/-- .. for the walk. -/
theorem wpList_append_row {P : Program} (w : World) {ops : Array Oper} {rest : List Oper} {o : Oper} {a : Act} {Q : Exit → Act → World → Prop}
    (hg : o.guard = none) (s x : Operand) (t : TypeId) (hop : o.op = Op.call { callee := Callee.builtin Builtin.append, args := #[s, x], argTypes := #[t, t] })
    (e : TypeId) (i : TypeInfo) (z : Value) (size bytes : Nat) (h1 : P.underlying t = some (.slice e)) (h2 : P.info? e = some i) (h3 : i.zero = some z) (h4 : i.size = size) (h5 : i.bytes = bytes) (h6 : z.cells.size = size) (h7 : 0 < size)
    {v : Value} {n : Nat} {qs : List Nat} {xs : List Value} (hs : a.eval s = v) (hrow : Row w e size v qs n xs)
    (ad : Addr) (m c : Nat) (news : List Value) (hx : a.eval x = .slice (some ad) m c) (hn : news.length = m * size) (hc : ∀ j u, news[j]? = some u → w.cell? (ad.add j) = some u) (h1c : ∀ u ∈ news, u.oneCell' = true)
    (b1 : n + m ≤ maxLen) (b2 : (n + m) * bytes ≤ 140737488355328)
    (hK : ∀ v' w' qs', Row w' e size v' qs' (n + m) (xs ++ news) → Ch qs w w' → (qs' = qs ∨ ∃ q', qs' = [q'] ∧ w.heap.size ≤ q' ∧ q' < w'.heap.size) → wpList P ops Q rest (a.put o.dst v') w') :
    wpList P ops Q (o :: rest) a w := by
  refine wpList_plain hg fun K hK' => ?_
  obtain ⟨v', w', q', hrun, r1, r2, r3⟩ := run_append_row (P := P) w t o.type e i z size bytes h1 h2 h3 h4 h5 h6 h7 hrow ad m c news hn hc h1c b1 b2
  unfold Oper.wp
  simp [execOp, hop, resolve, invoke, builtin, hs, hx, hrun, Result.andThen]
  exact hK' _ _ (hK v' w' q' r1 r2 r3)
end Go.Proofs.YtlhhcocdhkbdnaaDoor.Hp

set_option linter.unusedVariables false
set_option linter.unusedSimpArgs false
namespace Go.Proofs.YtlhhcocdhkbdnaaDoor.Hp
open Go.RowKit

/-- A block that has just been made reads as what was laid in it. -/
theorem newL {w : World} {b : Nat} (hb : b = w.heap.size) (us : List Value) (t : TypeId) : ∀ j x, us[j]? = some x → (w.alloc (.cells us.toArray t)).cell? ((⟨b, 0, none⟩ : Addr).add j) = some x := by
  intro j x hj
  subst hb
  rw [Addr.add_lit, Nat.zero_add, World.cell?_alloc_at _ _ _ _ rfl]
  simpa using hj
theorem one1 (k : IntKind) (x : Int) : ∀ u ∈ [Value.int k x], u.oneCell' = true := by intro u hu; simp at hu; subst hu; rfl
theorem oneB (x : Bool) : ∀ u ∈ [Value.bool x], u.oneCell' = true := by intro u hu; simp at hu; subst hu; rfl
theorem oneS (ao : Option Addr) (n c : Nat) : ∀ u ∈ [Value.slice ao n c], u.oneCell' = true := by intro u hu; simp at hu; subst hu; rfl
theorem one2 (k k' : IntKind) (x y : Int) : ∀ u ∈ [Value.int k x, Value.int k' y], u.oneCell' = true := by intro u hu; simp at hu; rcases hu with rfl | rfl <;> rfl
theorem one4 (a b c d : IntKind) (x y z t : Int) : ∀ u ∈ [Value.int a x, Value.int b y, Value.int c z, Value.int d t], u.oneCell' = true := by intro u hu; simp at hu; rcases hu with rfl | rfl | rfl | rfl <;> rfl
/-- A slice without room. -/
theorem Row.none (w : World) (e : TypeId) (sz : Nat) (qs : List Nat) (ao : Option Addr) : Row w e sz (.slice ao 0 0) qs 0 [] := ⟨by simp, ao, 0, rfl, Nat.le_refl _, by simp [maxLen], fun _ => rfl, .inl rfl⟩
/-- What an append leaves as blocks: those that were, or a new one. -/
def News (qs qs' : List Nat) (w w' : World) : Prop := qs' = qs ∨ ∃ q', qs' = [q'] ∧ w.heap.size ≤ q' ∧ q' < w'.heap.size
theorem News.mem {qs qs' : List Nat} {w w' : World} (h : News qs qs' w w') {q : Nat} (hq : q ∈ qs') : q ∈ qs ∨ (w.heap.size ≤ q ∧ q < w'.heap.size) := by
  rcases h with e | ⟨q', e, h1, h2⟩
  · rw [e] at hq; exact .inl hq
  · rw [e] at hq; simp only [List.mem_singleton] at hq; subst hq; exact .inr ⟨h1, h2⟩
end Go.Proofs.YtlhhcocdhkbdnaaDoor.Hp

set_option linter.unusedVariables false
set_option linter.unusedSimpArgs false
namespace Go.Proofs.YtlhhcocdhkbdnaaDoor.Sm
open Go.RowKit Go.Proofs.YtlhhcocdhkbdnaaDoor.Hp

/-- Do two lists agree in their first k places? -/
theorem eq_of_agree {α : Type} {xs ys : List α} (hl : xs.length = ys.length) (h : ∀ j, j < xs.length → xs[j]? = ys[j]?) : xs = ys := by
  apply List.ext_getElem? ; intro j
  rcases Nat.lt_or_ge j xs.length with hj | hj
  · exact h j hj
  · rw [List.getElem?_eq_none hj, List.getElem?_eq_none (by omega)]

def ints (k : IntKind) (xs : List Int) : List Value := xs.map (Value.int k)
theorem ints_get {k : IntKind} {xs : List Int} {j : Nat} (h : j < xs.length) : (ints k xs)[j]? = some (.int k (xs.getD j 0)) := by simp [ints, h]
theorem rd_ints {w : World} {ao : Option Addr} {k : IntKind} {xs : List Int} {n : Nat} (h : Rd w ao n (ints k xs)) : xs.length = n ∧ (n = 0 ∨ ∃ b off, ao = some ⟨b, off, none⟩ ∧ ∀ j, j < n → w.cell? ⟨b, off + j, none⟩ = some (.int k (xs.getD j 0))) := by
  obtain ⟨h1, h2⟩ := h
  have hl : xs.length = n := by simpa [ints] using h1
  exact ⟨hl, h2.imp id fun ⟨b, off, ha, hc⟩ => ⟨b, off, ha, fun j hj => (hc j hj).trans (ints_get (by omega))⟩⟩

theorem rd_new (w : World) (k : IntKind) (l : List Int) (t : TypeId) : Rd (w.alloc (.cells (ints k l).toArray t)) (some ⟨w.heap.size, 0, none⟩) l.length (ints k l) :=
  ⟨by simp [ints], .inr ⟨w.heap.size, 0, rfl, fun j hj => by rw [Nat.zero_add, World.cell?_alloc_at _ _ _ _ rfl]; simp⟩⟩
set_option maxHeartbeats 1000000 in
theorem SameInts_any (w : World) (ao bo : Option Addr) (n cn m cm : Nat) (xs ys : List Int) (hn : n ≤ cn) (hcn : cn ≤ maxLen) (hm : m ≤ cm) (hcm : cm ≤ maxLen) (hx : Rd w ao n (ints .i64 xs)) (hy : Rd w bo m (ints .i64 ys)) :
    Calls Tryd.prog 15 #[.slice ao n cn, .slice bo m cm] w fun e w' => e = .returned (.bool (decide (xs = ys))) ∧ ∃ d, w' = w.drewN d := by
  obtain ⟨hxl, hx⟩ := rd_ints hx
  obtain ⟨hyl, hy⟩ := rd_ints hy
  unfold maxLen at hcn hcm
  by_cases hnm : n = m
  · subst hnm
    have hcell : ∃ b off b' off', (0 < n → ao = some ⟨b, off, none⟩ ∧ bo = some ⟨b', off', none⟩) ∧ ∀ j, j < n → w.cell? ⟨b, off + j, none⟩ = some (.int .i64 (xs.getD j 0)) ∧ w.cell? ⟨b', off' + j, none⟩ = some (.int .i64 (ys.getD j 0)) := by
      rcases hx with rfl | ⟨b, off, ha, hx⟩
      · exact ⟨0, 0, 0, 0, fun h => absurd h (by omega), fun j hj => absurd hj (by omega)⟩
      · rcases hy with rfl | ⟨b', off', hb, hy⟩
        · exact ⟨0, 0, 0, 0, fun h => absurd h (by omega), fun j hj => absurd hj (by omega)⟩
        · exact ⟨b, off, b', off', fun _ => ⟨ha, hb⟩, fun j hj => ⟨hx j hj, hy j hj⟩⟩
    clear hx hy
    obtain ⟨b, off, b', off', hao, hcell⟩ := hcell
    have HA := Lib.hid hao
    have HC := Lib.hid hcell
    have HX := Lib.hid hxl
    have HY := Lib.hid hyl
    clear hao hcell hxl hyl
    go_enter Tryd.func15, Tryd.ntmps15
    go_wp2_with fail
    go_loopw [5] (fun i wr => ∃ k d : Nat, k ≤ n ∧ i = .int .i64 k ∧ wr = w.drewN d ∧ (∀ j, j < k → xs[j]? = ys[j]?)) (fun i _ => n - (intOf i).toNat)
    case atStart => exact ⟨0, 0, by omega, rfl, rfl, fun j hj => absurd hj (by omega)⟩
    case round =>
      obtain ⟨k, d, hk, rfl, rfl, hag⟩ := hrel
      have HG := Lib.hid hag
      clear hag
      by_cases hlt : k < n
      · obtain ⟨rfl, rfl⟩ := HA.out (by omega)
        obtain ⟨c1, c2⟩ := HC.out k hlt
        generalize hu : xs.getD k 0 = u at *
        generalize hv : ys.getD k 0 = v at *
        have HU := Lib.hid hu
        have HV := Lib.hid hv
        clear hu hv
        by_cases huv : u = v
        · have huv' : (u != v) = false := by simpa using huv
          have HUV := Lib.hid huv
          clear huv
          go_wp2_with fail
          go_quiet (fail)
          go_wp2_with fail
          go_roundw
          case rel => exact ⟨k + 1, _, by omega, by go_num, rfl, fun j hj => by
            rcases Nat.lt_or_ge j k with h | h
            · exact HG.out j h
            · obtain rfl : j = k := by omega
              have a1 := HX.out; have a2 := HY.out; have e1 := HU.out; have e2 := HV.out; have e3 := HUV.out
              rw [List.getElem?_eq_getElem (by omega), List.getElem?_eq_getElem (by omega)]
              simp [List.getD, show j < xs.length by omega, show j < ys.length by omega] at e1 e2
              rw [e1, e2, e3]⟩
          case measure => simp [intOf]; omega
        · have huv' : (u != v) = true := by simpa using huv
          have HUV := Lib.hid huv
          clear huv
          go_wp2_with fail
          go_quiet (fail)
          go_wp2_with fail
          go_ret
          refine ⟨?_, _, World.drewN_drewN _ _ _⟩
          have hne : xs ≠ ys := by
            intro e
            apply HUV.out
            rw [← HU.out, ← HV.out, e]
          simp [hne]
      · obtain rfl : k = n := by omega
        go_wp2_with fail
        go_ret
        refine ⟨?_, _, rfl⟩
        have heq : xs = ys := eq_of_agree (HX.out.trans HY.out.symm) (fun j hj => HG.out j (by have := HX.out; omega))
        simp [heq]
  · have hne : xs ≠ ys := by
      intro e; subst e; omega
    have hd : decide (xs = ys) = false := by simp [hne]
    rw [hd]
    have hb : ((n : Int) != (m : Int)) = true := by rw [bne_iff_ne]; omega
    clear hx hy hne hd hnm
    go_enter Tryd.func15, Tryd.ntmps15
    go_wp2_with fail
    go_ret
    exact ⟨rfl, 0, rfl⟩
end Go.Proofs.YtlhhcocdhkbdnaaDoor.Sm

set_option linter.unusedVariables false
set_option linter.unusedSimpArgs false
namespace Go.Proofs.YtlhhcocdhkbdnaaDoor.Hp
open Go.RowKit
/-- Nothing is appended to nothing. -/
theorem wpList_append_nil0 {P : Program} (w : World) {ops : Array Oper} {rest : List Oper} {o : Oper} {a : Act} {Q : Exit → Act → World → Prop}
    (hg : o.guard = none) (s x : Operand) (t : TypeId) (hop : o.op = Op.call { callee := Callee.builtin Builtin.append, args := #[s, x], argTypes := #[t, t] })
    (e : TypeId) (i : TypeInfo) (h1 : P.underlying t = some (.slice e)) (h2 : P.info? e = some i)
    (hs : a.eval s = .slice none 0 0) (c : Nat) (ao : Option Addr) (hx : a.eval x = .slice ao 0 c)
    (hK : wpList P ops Q rest (a.put o.dst (.slice none 0 0)) w) :
    wpList P ops Q (o :: rest) a w := by
  refine wpList_plain hg fun K hK' => ?_
  unfold Oper.wp
  cases ao with
  | none =>
    simp [execOp, hop, resolve, invoke, builtin, hs, hx, Builtin.append_, run_underlying h1, sizeOf, typeInfo, h2, Builtin.lenOf, Builtin.firstCells, storeCells, Result.andThen]
    exact hK' _ _ hK
  | some ad =>
    have hf := run_firstCells_some (P := P) w i.size 0 ad 0 c [] (by simp) (fun j u h => by simp at h)
    simp [execOp, hop, resolve, invoke, builtin, hs, hx, Builtin.append_, run_underlying h1, sizeOf, typeInfo, h2, Builtin.lenOf, hf, storeCells, Result.andThen]
    exact hK' _ _ hK
/-- A list that reads as xs, of anybody's, appended onto nothing: a row of the walk's own. -/
theorem wpList_append_copy {P : Program} (w : World) {ops : Array Oper} {rest : List Oper} {o : Oper} {a : Act} {Q : Exit → Act → World → Prop}
    (hg : o.guard = none) (s x : Operand) (t : TypeId) (hop : o.op = Op.call { callee := Callee.builtin Builtin.append, args := #[s, x], argTypes := #[t, t] })
    (e : TypeId) (i : TypeInfo) (z : Value) (size bytes : Nat) (h1 : P.underlying t = some (.slice e)) (h2 : P.info? e = some i) (h3 : i.zero = some z) (h4 : i.size = size) (h5 : i.bytes = bytes) (h6 : z.cells.size = size) (h7 : 0 < size)
    (hs : a.eval s = .slice none 0 0) (ao : Option Addr) (m c : Nat) (hx : a.eval x = .slice ao m c) (xs : List Value) (hr : Rd w ao (m * size) xs) (h1c : ∀ u ∈ xs, u.oneCell' = true) (hm : m ≤ maxLen) (hbytes : m * bytes ≤ 140737488355328)
    (hK : ∀ v' w' qs', Row w' e size v' qs' m xs → Ch [] w w' → (qs' = [] ∨ ∃ q', qs' = [q'] ∧ w.heap.size ≤ q' ∧ q' < w'.heap.size) → wpList P ops Q rest (a.put o.dst v') w') :
    wpList P ops Q (o :: rest) a w := by
  by_cases hm0 : m = 0
  · subst hm0
    refine wpList_append_nil0 w hg s x t hop e i h1 h2 hs c ao hx (hK _ _ [] ?_ (Ch.refl _ _) (.inl rfl))
    have : xs = [] := List.eq_nil_of_length_eq_zero (by simpa using hr.1)
    subst this
    exact Row.nil _ _ _ _
  · obtain ⟨b, off, rfl, hj⟩ := hr.2.resolve_left (Nat.mul_ne_zero hm0 (by omega))
    refine wpList_append_row w hg s x t hop e i z size bytes h1 h2 h3 h4 h5 h6 h7 hs (Row.nil w e size []) ⟨b, off, none⟩ m c xs hx hr.1 (fun j u hu => ?_) h1c (by omega) (by simpa using hbytes) ?_
    · rw [Addr.add_lit]
      have hlt : j < m * size := by
        rcases Nat.lt_or_ge j (m * size) with h | h
        · exact h
        · rw [List.getElem?_eq_none (by rw [hr.1]; exact h)] at hu; cases hu
      exact (hj j hlt).trans hu
    · intro v' w' qs' g1 g2 g3
      exact hK v' w' qs' (by simpa using g1) g2 (by simpa using g3)
/-- Nothing is appended to a row. -/
theorem wpList_append_zero {P : Program} (w : World) {ops : Array Oper} {rest : List Oper} {o : Oper} {a : Act} {Q : Exit → Act → World → Prop}
    (hg : o.guard = none) (s x : Operand) (t : TypeId) (hop : o.op = Op.call { callee := Callee.builtin Builtin.append, args := #[s, x], argTypes := #[t, t] })
    (e : TypeId) (i : TypeInfo) (h1 : P.underlying t = some (.slice e)) (h2 : P.info? e = some i)
    (so : Option Addr) (n cap : Nat) (hcap : n ≤ cap) (hnil : so = none → cap = 0) (hs : a.eval s = .slice so n cap) (c : Nat) (ao : Option Addr) (hx : a.eval x = .slice ao 0 c)
    (hK : wpList P ops Q rest (a.put o.dst (.slice so n cap)) w) :
    wpList P ops Q (o :: rest) a w := by
  cases so with
  | none =>
    obtain rfl := hnil rfl
    obtain rfl : n = 0 := by omega
    exact wpList_append_nil0 w hg s x t hop e i h1 h2 hs c ao hx hK
  | some so =>
    refine wpList_plain hg fun K hK' => ?_
    unfold Oper.wp
    cases ao with
    | none =>
      simp [execOp, hop, resolve, invoke, builtin, hs, hx, Builtin.append_, run_underlying h1, sizeOf, typeInfo, h2, Builtin.lenOf, Builtin.firstCells, storeCells, hcap, Result.andThen]
      exact hK' _ _ hK
    | some ad =>
      have hf := run_firstCells_some (P := P) w i.size 0 ad 0 c [] (by simp) (fun j u h => by simp at h)
      simp [execOp, hop, resolve, invoke, builtin, hs, hx, Builtin.append_, run_underlying h1, sizeOf, typeInfo, h2, Builtin.lenOf, hf, storeCells, hcap, Result.andThen]
      exact hK' _ _ hK
/-- A list that reads as ys, of anybody's, appended onto a row of the walk's own. -/
theorem wpList_append_list {P : Program} (w : World) {ops : Array Oper} {rest : List Oper} {o : Oper} {a : Act} {Q : Exit → Act → World → Prop}
    (hg : o.guard = none) (s x : Operand) (t : TypeId) (hop : o.op = Op.call { callee := Callee.builtin Builtin.append, args := #[s, x], argTypes := #[t, t] })
    (e : TypeId) (i : TypeInfo) (z : Value) (size bytes : Nat) (h1 : P.underlying t = some (.slice e)) (h2 : P.info? e = some i) (h3 : i.zero = some z) (h4 : i.size = size) (h5 : i.bytes = bytes) (h6 : z.cells.size = size) (h7 : 0 < size)
    {sv : Value} {n : Nat} {qs : List Nat} {xs : List Value} (hs : a.eval s = sv) (hrow : Row w e size sv qs n xs) (ao : Option Addr) (m c : Nat) (hx : a.eval x = .slice ao m c) (ys : List Value) (hr : Rd w ao (m * size) ys) (h1c : ∀ u ∈ ys, u.oneCell' = true) (hm : n + m ≤ maxLen) (hbytes : (n + m) * bytes ≤ 140737488355328)
    (hK : ∀ v' w' qs', Row w' e size v' qs' (n + m) (xs ++ ys) → Ch qs w w' → (qs' = qs ∨ ∃ q', qs' = [q'] ∧ w.heap.size ≤ q' ∧ q' < w'.heap.size) → wpList P ops Q rest (a.put o.dst v') w') :
    wpList P ops Q (o :: rest) a w := by
  by_cases hm0 : m = 0
  · subst hm0
    obtain ⟨hlx, so, cap, rfl, hnc, hcm, hnil, hr'⟩ := hrow
    have : ys = [] := List.eq_nil_of_length_eq_zero (by simpa using hr.1)
    subst this
    refine wpList_append_zero w hg s x t hop e i h1 h2 so n cap hnc hnil hs c ao hx (hK _ _ qs ?_ (Ch.refl _ _) (.inl rfl))
    rw [List.append_nil, Nat.add_zero]
    exact ⟨hlx, so, cap, rfl, hnc, hcm, hnil, hr'⟩
  · obtain ⟨b, off, rfl, hj⟩ := hr.2.resolve_left (Nat.mul_ne_zero hm0 (by omega))
    refine wpList_append_row w hg s x t hop e i z size bytes h1 h2 h3 h4 h5 h6 h7 hs hrow ⟨b, off, none⟩ m c ys hx hr.1 (fun j u hu => ?_) h1c hm hbytes hK
    rw [Addr.add_lit]
    have hlt : j < m * size := by
      rcases Nat.lt_or_ge j (m * size) with h | h
      · exact h
      · rw [List.getElem?_eq_none (by rw [hr.1]; exact h)] at hu; cases hu
    exact (hj j hlt).trans hu
/-- APPEND onto a row of the walk's own, as one step of a region that draws its order. -/
theorem step_append_row {P : Program} {ops : Array Oper} {o : Oper} {a : Act} {w : World} {K : Act → World → Prop} {Q : Exit → Act → World → Prop} {E : Prop}
    (hg : o.guard = none) (s x : Operand) (t : TypeId) (hop : o.op = Op.call { callee := Callee.builtin Builtin.append, args := #[s, x], argTypes := #[t, t] })
    (e : TypeId) (i : TypeInfo) (z : Value) (size bytes : Nat) (h1 : P.underlying t = some (.slice e)) (h2 : P.info? e = some i) (h3 : i.zero = some z) (h4 : i.size = size) (h5 : i.bytes = bytes) (h6 : z.cells.size = size) (h7 : 0 < size)
    {v : Value} {n : Nat} {qs : List Nat} {xs : List Value} (hs : a.eval s = v) (hrow : Row w e size v qs n xs)
    (ad : Addr) (m c : Nat) (news : List Value) (hx : a.eval x = .slice (some ad) m c) (hn : news.length = m * size) (hc : ∀ j u, news[j]? = some u → w.cell? (ad.add j) = some u) (h1c : ∀ u ∈ news, u.oneCell' = true)
    (b1 : n + m ≤ maxLen) (b2 : (n + m) * bytes ≤ 140737488355328)
    (hK : ∀ v' w' qs', Row w' e size v' qs' (n + m) (xs ++ news) → Ch qs w w' → (qs' = qs ∨ ∃ q', qs' = [q'] ∧ w.heap.size ≤ q' ∧ q' < w'.heap.size) → K (a.put o.dst v') w') :
    if Region.wanted o (yielded ops a.tmps) = true then Oper.wp P o a w K Q else E := by
  have hw : Region.wanted o (yielded ops a.tmps) = true := by simp [Region.wanted, hg]
  rw [if_pos hw]
  obtain ⟨v', w', q', hrun, r1, r2, r3⟩ := run_append_row (P := P) w t o.type e i z size bytes h1 h2 h3 h4 h5 h6 h7 hrow ad m c news hn hc h1c b1 b2
  unfold Oper.wp
  simp [execOp, hop, resolve, invoke, builtin, hs, hx, hrun, Result.andThen]
  exact hK _ _ _ r1 r2 r3
end Go.Proofs.YtlhhcocdhkbdnaaDoor.Hp
