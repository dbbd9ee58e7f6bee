/-
  THE WALKS of graph.Reach, Order, Form.
-/
import Derived.Test.YtlhhcocdhkbdnaaDoorGraph3
import Derived.StillTail
import Derived.StillTactics
set_option linter.unusedVariables false
set_option linter.unusedSimpArgs false
set_option maxRecDepth 100000
namespace Go.Proofs.YtlhhcocdhkbdnaaDoor.Gr
open Go.RowKit Go.Proofs.YtlhhcocdhkbdnaaDoor.Wd Go.Proofs.YtlhhcocdhkbdnaaDoor.Hp Go.Proofs.YtlhhcocdhkbdnaaDoor.Gp Go.Proofs.YtlhhcocdhkbdnaaDoor.Sm

def gErr (h : List Cel) (ws : List Int) : Int := if may h ws then 0 else 100
def reach (h : List Cel) (ws : List Int) : List Bool := if may h ws then (order h ws).1 else []
def met (h : List Cel) (ws : List Int) : List Nat := if may h ws then (order h ws).2 else []
/-- What a maker of a list and an error answers. -/
def Mk (e : TypeId) (xs : List Value) (n : Nat) (er : Int) (w : World) (en : Ending) (w' : World) : Prop :=
  ∃ (v : Value) (qs : List Nat), en = .returned (.tuple #[v, .int .i64 er]) ∧ Row w' e 1 v qs n xs ∧ Ch [] w w' ∧ ∀ q ∈ qs, w.heap.size ≤ q
theorem eachW_len (n : Nat) (l : List Int) (s : St) (h : s.1.length = n) : (eachW meet s l).1.length = n := by
  induction l generalizing s with
  | nil => exact h
  | cons x l ih =>
    show (eachW meet (if isRef x then meet s (cellN x).toNat else s) l).1.length = n
    apply ih
    split
    · unfold meet; split
      · exact h
      · simpa using h
    · exact h
theorem orderL_len (h : List Cel) (n : Nat) : ∀ (k i : Nat) (s : St), s.1.length = n → (orderL h k i s).1.length = n
  | 0, _, s, hs => hs
  | k + 1, i, s, hs => by
    rw [orderL]; split
    · exact orderL_len h n k (i + 1) _ (eachW_len n _ _ hs)
    · exact hs
theorem order_len (h : List Cel) (ws : List Int) : (order h ws).1.length = h.length := orderL_len h _ _ _ _ (eachW_len _ _ _ (by simp))
theorem Row.block {w : World} {b : Nat} {e : TypeId} {xs : List Value} {n : Nat} (h : w.heap[b]? = some (.cells xs.toArray e (0, 0))) (hn : xs.length = n) (hm : n ≤ 1000000) : Row w e 1 (.slice (some ⟨b, 0, none⟩) n n) [b] n xs :=
  ⟨by omega, _, n, rfl, Nat.le_refl _, by unfold maxLen; omega, (by intro h; cases h), .inr ⟨b, 0, _, by simp, rfl, h, by simp; omega, fun j hj => by simp⟩⟩
section
variable (w : World) (ao : Option Addr) (cap : Nat) (h : List Cel) (aw : Option Addr) (m cw : Nat) (ws : List Int)
end
end Go.Proofs.YtlhhcocdhkbdnaaDoor.Gr
