/-
  MEMORY, on (no program): an append of a list of somebody else's onto nothing; rows that lie apart.
-/
import Derived.Test.YtlhhcocdhkbdnaaDoorHeap2
import Derived.Deep.RegionLaw
set_option linter.unusedVariables false
set_option linter.unusedSimpArgs false
namespace Go.Proofs.YtlhhcocdhkbdnaaDoor.Hp
open Go.RowKit
/-- Nothing is appended to nothing. -/
theorem wpList_append_nil0 {P : Program} (w : World) {ops : Array Oper} {rest : List Oper} {o : Oper} {a : Act} {Q : Exit → Act → World → Prop}
    (hg : o.guard = none) (s x : Operand) (t : TypeId) (hop : o.op = Op.call { callee := Callee.builtin Builtin.append, args := #[s, x], argTypes := #[t, t] })
    (e : TypeId) (i : TypeInfo) (h1 : P.underlying t = some (.slice e)) (h2 : P.info? e = some i)
    (hs : a.eval s = .slice none 0 0) (c : Nat) (ao : Option Addr) (hx : a.eval x = .slice ao 0 c)
    (hK : wpList P ops Q rest (a.put o.dst (.slice none 0 0)) w) :
    wpList P ops Q (o :: rest) a w := by
  refine wpList_plain hg fun K hK' => ?_
  unfold Oper.wp
  cases ao with
  | none =>
    simp [execOp, hop, resolve, invoke, builtin, hs, hx, Builtin.append_, run_underlying h1, sizeOf, typeInfo, h2, Builtin.lenOf, Builtin.firstCells, storeCells, Result.andThen]
    exact hK' _ _ hK
  | some ad =>
    have hf := run_firstCells_some (P := P) w i.size 0 ad 0 c [] (by simp) (fun j u h => by simp at h)
    simp [execOp, hop, resolve, invoke, builtin, hs, hx, Builtin.append_, run_underlying h1, sizeOf, typeInfo, h2, Builtin.lenOf, hf, storeCells, Result.andThen]
    exact hK' _ _ hK
/-- A list that reads as xs, of anybody's, appended onto nothing: a row of the walk's own. -/
theorem wpList_append_copy {P : Program} (w : World) {ops : Array Oper} {rest : List Oper} {o : Oper} {a : Act} {Q : Exit → Act → World → Prop}
    (hg : o.guard = none) (s x : Operand) (t : TypeId) (hop : o.op = Op.call { callee := Callee.builtin Builtin.append, args := #[s, x], argTypes := #[t, t] })
    (e : TypeId) (i : TypeInfo) (z : Value) (size bytes : Nat) (h1 : P.underlying t = some (.slice e)) (h2 : P.info? e = some i) (h3 : i.zero = some z) (h4 : i.size = size) (h5 : i.bytes = bytes) (h6 : z.cells.size = size) (h7 : 0 < size)
    (hs : a.eval s = .slice none 0 0) (ao : Option Addr) (m c : Nat) (hx : a.eval x = .slice ao m c) (xs : List Value) (hr : Rd w ao (m * size) xs) (h1c : ∀ u ∈ xs, u.oneCell' = true) (hm : m ≤ maxLen) (hbytes : m * bytes ≤ 140737488355328)
    (hK : ∀ v' w' qs', Row w' e size v' qs' m xs → Ch [] w w' → (qs' = [] ∨ ∃ q', qs' = [q'] ∧ w.heap.size ≤ q' ∧ q' < w'.heap.size) → wpList P ops Q rest (a.put o.dst v') w') :
    wpList P ops Q (o :: rest) a w := by
  by_cases hm0 : m = 0
  · subst hm0
    refine wpList_append_nil0 w hg s x t hop e i h1 h2 hs c ao hx (hK _ _ [] ?_ (Ch.refl _ _) (.inl rfl))
    have : xs = [] := List.eq_nil_of_length_eq_zero (by simpa using hr.1)
    subst this
    exact Row.nil _ _ _ _
  · obtain ⟨b, off, rfl, hj⟩ := hr.2.resolve_left (Nat.mul_ne_zero hm0 (by omega))
    refine wpList_append_row w hg s x t hop e i z size bytes h1 h2 h3 h4 h5 h6 h7 hs (Row.nil w e size []) ⟨b, off, none⟩ m c xs hx hr.1 (fun j u hu => ?_) h1c (by omega) (by simpa using hbytes) ?_
    · rw [Addr.add_lit]
      have hlt : j < m * size := by
        rcases Nat.lt_or_ge j (m * size) with h | h
        · exact h
        · rw [List.getElem?_eq_none (by rw [hr.1]; exact h)] at hu; cases hu
      exact (hj j hlt).trans hu
    · intro v' w' qs' g1 g2 g3
      exact hK v' w' qs' (by simpa using g1) g2 (by simpa using g3)
/-- Nothing is appended to a row. -/
theorem wpList_append_zero {P : Program} (w : World) {ops : Array Oper} {rest : List Oper} {o : Oper} {a : Act} {Q : Exit → Act → World → Prop}
    (hg : o.guard = none) (s x : Operand) (t : TypeId) (hop : o.op = Op.call { callee := Callee.builtin Builtin.append, args := #[s, x], argTypes := #[t, t] })
    (e : TypeId) (i : TypeInfo) (h1 : P.underlying t = some (.slice e)) (h2 : P.info? e = some i)
    (so : Option Addr) (n cap : Nat) (hcap : n ≤ cap) (hnil : so = none → cap = 0) (hs : a.eval s = .slice so n cap) (c : Nat) (ao : Option Addr) (hx : a.eval x = .slice ao 0 c)
    (hK : wpList P ops Q rest (a.put o.dst (.slice so n cap)) w) :
    wpList P ops Q (o :: rest) a w := by
  cases so with
  | none =>
    obtain rfl := hnil rfl
    obtain rfl : n = 0 := by omega
    exact wpList_append_nil0 w hg s x t hop e i h1 h2 hs c ao hx hK
  | some so =>
    refine wpList_plain hg fun K hK' => ?_
    unfold Oper.wp
    cases ao with
    | none =>
      simp [execOp, hop, resolve, invoke, builtin, hs, hx, Builtin.append_, run_underlying h1, sizeOf, typeInfo, h2, Builtin.lenOf, Builtin.firstCells, storeCells, hcap, Result.andThen]
      exact hK' _ _ hK
    | some ad =>
      have hf := run_firstCells_some (P := P) w i.size 0 ad 0 c [] (by simp) (fun j u h => by simp at h)
      simp [execOp, hop, resolve, invoke, builtin, hs, hx, Builtin.append_, run_underlying h1, sizeOf, typeInfo, h2, Builtin.lenOf, hf, storeCells, hcap, Result.andThen]
      exact hK' _ _ hK
/-- A list that reads as ys, of anybody's, appended onto a row of the walk's own. -/
theorem wpList_append_list {P : Program} (w : World) {ops : Array Oper} {rest : List Oper} {o : Oper} {a : Act} {Q : Exit → Act → World → Prop}
    (hg : o.guard = none) (s x : Operand) (t : TypeId) (hop : o.op = Op.call { callee := Callee.builtin Builtin.append, args := #[s, x], argTypes := #[t, t] })
    (e : TypeId) (i : TypeInfo) (z : Value) (size bytes : Nat) (h1 : P.underlying t = some (.slice e)) (h2 : P.info? e = some i) (h3 : i.zero = some z) (h4 : i.size = size) (h5 : i.bytes = bytes) (h6 : z.cells.size = size) (h7 : 0 < size)
    {sv : Value} {n : Nat} {qs : List Nat} {xs : List Value} (hs : a.eval s = sv) (hrow : Row w e size sv qs n xs) (ao : Option Addr) (m c : Nat) (hx : a.eval x = .slice ao m c) (ys : List Value) (hr : Rd w ao (m * size) ys) (h1c : ∀ u ∈ ys, u.oneCell' = true) (hm : n + m ≤ maxLen) (hbytes : (n + m) * bytes ≤ 140737488355328)
    (hK : ∀ v' w' qs', Row w' e size v' qs' (n + m) (xs ++ ys) → Ch qs w w' → (qs' = qs ∨ ∃ q', qs' = [q'] ∧ w.heap.size ≤ q' ∧ q' < w'.heap.size) → wpList P ops Q rest (a.put o.dst v') w') :
    wpList P ops Q (o :: rest) a w := by
  by_cases hm0 : m = 0
  · subst hm0
    obtain ⟨hlx, so, cap, rfl, hnc, hcm, hnil, hr'⟩ := hrow
    have : ys = [] := List.eq_nil_of_length_eq_zero (by simpa using hr.1)
    subst this
    refine wpList_append_zero w hg s x t hop e i h1 h2 so n cap hnc hnil hs c ao hx (hK _ _ qs ?_ (Ch.refl _ _) (.inl rfl))
    rw [List.append_nil, Nat.add_zero]
    exact ⟨hlx, so, cap, rfl, hnc, hcm, hnil, hr'⟩
  · obtain ⟨b, off, rfl, hj⟩ := hr.2.resolve_left (Nat.mul_ne_zero hm0 (by omega))
    refine wpList_append_row w hg s x t hop e i z size bytes h1 h2 h3 h4 h5 h6 h7 hs hrow ⟨b, off, none⟩ m c ys hx hr.1 (fun j u hu => ?_) h1c hm hbytes hK
    rw [Addr.add_lit]
    have hlt : j < m * size := by
      rcases Nat.lt_or_ge j (m * size) with h | h
      · exact h
      · rw [List.getElem?_eq_none (by rw [hr.1]; exact h)] at hu; cases hu
    exact (hj j hlt).trans hu
/-- APPEND onto a row of the walk's own, as one step of a region that draws its order. -/
theorem step_append_row {P : Program} {ops : Array Oper} {o : Oper} {a : Act} {w : World} {K : Act → World → Prop} {Q : Exit → Act → World → Prop} {E : Prop}
    (hg : o.guard = none) (s x : Operand) (t : TypeId) (hop : o.op = Op.call { callee := Callee.builtin Builtin.append, args := #[s, x], argTypes := #[t, t] })
    (e : TypeId) (i : TypeInfo) (z : Value) (size bytes : Nat) (h1 : P.underlying t = some (.slice e)) (h2 : P.info? e = some i) (h3 : i.zero = some z) (h4 : i.size = size) (h5 : i.bytes = bytes) (h6 : z.cells.size = size) (h7 : 0 < size)
    {v : Value} {n : Nat} {qs : List Nat} {xs : List Value} (hs : a.eval s = v) (hrow : Row w e size v qs n xs)
    (ad : Addr) (m c : Nat) (news : List Value) (hx : a.eval x = .slice (some ad) m c) (hn : news.length = m * size) (hc : ∀ j u, news[j]? = some u → w.cell? (ad.add j) = some u) (h1c : ∀ u ∈ news, u.oneCell' = true)
    (b1 : n + m ≤ maxLen) (b2 : (n + m) * bytes ≤ 140737488355328)
    (hK : ∀ v' w' qs', Row w' e size v' qs' (n + m) (xs ++ news) → Ch qs w w' → (qs' = qs ∨ ∃ q', qs' = [q'] ∧ w.heap.size ≤ q' ∧ q' < w'.heap.size) → K (a.put o.dst v') w') :
    if Region.wanted o (yielded ops a.tmps) = true then Oper.wp P o a w K Q else E := by
  have hw : Region.wanted o (yielded ops a.tmps) = true := by simp [Region.wanted, hg]
  rw [if_pos hw]
  obtain ⟨v', w', q', hrun, r1, r2, r3⟩ := run_append_row (P := P) w t o.type e i z size bytes h1 h2 h3 h4 h5 h6 h7 hrow ad m c news hn hc h1c b1 b2
  unfold Oper.wp
  simp [execOp, hop, resolve, invoke, builtin, hs, hx, hrun, Result.andThen]
  exact hK _ _ _ r1 r2 r3
end Go.Proofs.YtlhhcocdhkbdnaaDoor.Hp
