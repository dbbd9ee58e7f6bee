/-
  LISTS THAT ARE LENT (dappleref00's Lent.., Whole.., Spoil..): an append into room that is known to be there.
-/
import Derived.Test.YtlhhcocdhkbdnaaDoorSameC
import Derived.Test.YtlhhcocdhkbdnaaDoorHeap2
set_option linter.unusedVariables false
set_option linter.unusedSimpArgs false
set_option maxRecDepth 100000
namespace Go.Proofs.YtlhhcocdhkbdnaaDoor.Hp
open Go.RowKit
theorem wpList_append_room {P : Program} (w : World) {ops : Array Oper} {rest : List Oper} {o : Oper} {a : Act} {Q : Exit → Act → World → Prop}
    (hg : o.guard = none) (s x : Operand) (t : TypeId) (hop : o.op = Op.call { callee := Callee.builtin Builtin.append, args := #[s, x], argTypes := #[t, t] })
    (e : TypeId) (i : TypeInfo) (size : Nat) (h1 : P.underlying t = some (.slice e)) (h2 : P.info? e = some i) (h4 : i.size = size)
    (b n cap : Nat) (hs : a.eval s = .slice (some ⟨b, 0, none⟩) n cap) (arr : Array Value) (hb : w.heap[b]? = some (.cells arr e (0, 0))) (hsz : arr.size = cap * size)
    (ad : Addr) (m c : Nat) (news : List Value) (hx : a.eval x = .slice (some ad) m c) (hn : news.length = m * size) (hc : ∀ j u, news[j]? = some u → w.cell? (ad.add j) = some u) (h1c : ∀ u ∈ news, u.oneCell' = true) (hroom : n + m ≤ cap)
    (hK : ∀ w' arr', w'.heap[b]? = some (.cells arr' e (0, 0)) → arr'.size = arr.size → (∀ j, j < n * size → arr'[j]? = arr[j]?) → (∀ j, j < m * size → arr'[n * size + j]? = news[j]?) → Ch [b] w w' → wpList P ops Q rest (a.put o.dst (.slice (some ⟨b, 0, none⟩) (n + m) cap)) w') :
    wpList P ops Q (o :: rest) a w := by
  refine wpList_plain hg fun K hK' => ?_
  subst h4
  have hle : (n + m) * i.size ≤ cap * i.size := Nat.mul_le_mul_right _ hroom
  have hmul : (n + m) * i.size = n * i.size + m * i.size := Nat.add_mul _ _ _
  obtain ⟨arr', g1, g2, g3, g4, g5⟩ := heap_setCells b news (0 + n * i.size) w arr e (0, 0) hb (by rw [hn]; omega)
  have hrun := run_append_room_cells (P := P) w t o.type e i h1 h2 b 0 n cap ad m c news hn hc h1c hroom
    (fun j hj => by rw [cell_at hb, Array.getElem?_eq_getElem (by omega)]; rfl) (fun j _ => free_at hb)
  unfold Oper.wp
  simp [execOp, hop, resolve, invoke, builtin, hs, hx, hrun, Result.andThen]
  exact hK' _ _ (hK _ _ (by simpa using g1) g2 (fun j hj => g3 j (by omega)) (fun j hj => by have := g4 j (by rw [hn]; exact hj); simpa using this) (by simpa using g5))
/-- .. of nothing at all. -/
theorem wpList_append_none {P : Program} (w : World) {ops : Array Oper} {rest : List Oper} {o : Oper} {a : Act} {Q : Exit → Act → World → Prop}
    (hg : o.guard = none) (s x : Operand) (t : TypeId) (hop : o.op = Op.call { callee := Callee.builtin Builtin.append, args := #[s, x], argTypes := #[t, t] })
    (e : TypeId) (i : TypeInfo) (h1 : P.underlying t = some (.slice e)) (h2 : P.info? e = some i)
    (b n cap : Nat) (hs : a.eval s = .slice (some ⟨b, 0, none⟩) n cap) (c : Nat) (ao : Option Addr) (hx : a.eval x = .slice ao 0 c) (hroom : n ≤ cap)
    (hK : wpList P ops Q rest (a.put o.dst (.slice (some ⟨b, 0, none⟩) n cap)) w) :
    wpList P ops Q (o :: rest) a w := by
  refine wpList_plain hg fun K hK' => ?_
  unfold Oper.wp
  cases ao with
  | none =>
    simp [execOp, hop, resolve, invoke, builtin, hs, hx, Builtin.append_, run_underlying h1, sizeOf, typeInfo, h2, Builtin.lenOf, Builtin.firstCells, storeCells, hroom, Result.andThen]
    exact hK' _ _ hK
  | some ad =>
    have hf := run_firstCells_some (P := P) w i.size 0 ad 0 c [] (by simp) (fun j u h => by simp at h)
    simp [execOp, hop, resolve, invoke, builtin, hs, hx, Builtin.append_, run_underlying h1, sizeOf, typeInfo, h2, Builtin.lenOf, hf, storeCells, hroom, Result.andThen]
    exact hK' _ _ hK
end Go.Proofs.YtlhhcocdhkbdnaaDoor.Hp
