/-
  THE WALKS of graph.Reach, Order, Form.
-/
import Derived.Test.YtggijcebobjghaaDoorGraph3
import Derived.StillTail
import Derived.StillTactics
set_option linter.unusedVariables false
set_option linter.unusedSimpArgs false
set_option maxRecDepth 100000
namespace Go.Proofs.YtggijcebobjghaaDoor.Gr
open Go.RowKit Go.Proofs.YtggijcebobjghaaDoor.Wd Go.Proofs.YtggijcebobjghaaDoor.Hp Go.Proofs.YtggijcebobjghaaDoor.Gp Go.Proofs.YtggijcebobjghaaDoor.Sm

def gErr (h : List Cel) (ws : List Int) : Int := if may h ws then 0 else 100
def reach (h : List Cel) (ws : List Int) : List Bool := if may h ws then (order h ws).1 else []
def met (h : List Cel) (ws : List Int) : List Nat := if may h ws then (order h ws).2 else []
/-- What a maker of a list and an error answers. -/
def Mk (e : TypeId) (xs : List Value) (n : Nat) (er : Int) (w : World) (en : Ending) (w' : World) : Prop :=
  ∃ (v : Value) (qs : List Nat), en = .returned (.tuple #[v, .int .i64 er]) ∧ Row w' e 1 v qs n xs ∧ Ch [] w w' ∧ ∀ q ∈ qs, w.heap.size ≤ q
theorem eachW_len (n : Nat) (l : List Int) (s : St) (h : s.1.length = n) : (eachW meet s l).1.length = n := by
  induction l generalizing s with
  | nil => exact h
  | cons x l ih =>
    show (eachW meet (if isRef x then meet s (cellN x).toNat else s) l).1.length = n
    apply ih
    split
    · unfold meet; split
      · exact h
      · simpa using h
    · exact h
theorem orderL_len (h : List Cel) (n : Nat) : ∀ (k i : Nat) (s : St), s.1.length = n → (orderL h k i s).1.length = n
  | 0, _, s, hs => hs
  | k + 1, i, s, hs => by
    rw [orderL]; split
    · exact orderL_len h n k (i + 1) _ (eachW_len n _ _ hs)
    · exact hs
theorem order_len (h : List Cel) (ws : List Int) : (order h ws).1.length = h.length := orderL_len h _ _ _ _ (eachW_len _ _ _ (by simp))
theorem Row.block {w : World} {b : Nat} {e : TypeId} {xs : List Value} {n : Nat} (h : w.heap[b]? = some (.cells xs.toArray e (0, 0))) (hn : xs.length = n) (hm : n ≤ 1000000) : Row w e 1 (.slice (some ⟨b, 0, none⟩) n n) [b] n xs :=
  ⟨by omega, _, n, rfl, Nat.le_refl _, by unfold maxLen; omega, (by intro h; cases h), .inr ⟨b, 0, _, by simp, rfl, h, by simp; omega, fun j hj => by simp⟩⟩
section
variable (w : World) (ao : Option Addr) (cap : Nat) (h : List Cel) (aw : Option Addr) (m cw : Nat) (ws : List Int)
theorem Reach_any (hn : h.length ≤ 1000000) (hm : m ≤ 1000000)
    (hr : RdF w ao (h.length * 4) (flat h) []) (hrw : RdF w aw m (ints .u64 ws) []) (hh : ∀ x ∈ h, InR x) (hu : ∀ v ∈ ws, u64 v) (hb : Bnd w) :
    Calls Tryd.prog 22 #[.slice ao h.length cap, .slice aw m cw] w (Mk 4 (bv (reach h ws)) (reach h ws).length (gErr h ws) w) := by
  have M := may_any w ao cap h aw m cw ws hn hm hr hrw hh hu hb
  cases hmay : may h ws
  · rw [hmay] at M
    have P : ∀ w', Ch [] w w' → Mk 4 (bv (reach h ws)) (reach h ws).length (gErr h ws) w (.returned (.tuple #[.slice none 0 0, .int .i64 100])) w' := fun w' hc => by
      unfold gErr reach; rw [hmay]
      exact ⟨_, [], rfl, Row.nil _ _ _ _, hc, by simp⟩
    have HP := Lib.hid P
    generalize Mk 4 (bv (reach h ws)) (reach h ws).length (gErr h ws) w = R at *
    clear hr hrw hh hu hb P hmay
    go_enter Tryd.func22, Tryd.ntmps22
    go_wp2_with fail
    refine M.mono ?_
    rintro e w2 ⟨rfl, h2⟩
    go_wp2_with fail
    exact HP.out _ h2
  · rw [hmay] at M
    have O := fun w2 (hc : Ch [] w w2) => order_any w2 ao cap h aw m cw ws hn hm (hr.ch hc (by simp)) (hrw.ch hc (by simp)) hh hu (Bnd.ch hb hc (by simp)) hmay
    have P : ∀ w2 w', Ch [] w w2 → ∀ mb : Nat, Ch [] w2 w' → w2.heap.size ≤ mb → w'.heap[mb]? = some (.cells (bv (order h ws).1).toArray 4 (0, 0)) → Mk 4 (bv (reach h ws)) (reach h ws).length (gErr h ws) w (.returned (.tuple #[.slice (some ⟨mb, 0, none⟩) h.length h.length, .int .i64 0])) w' := fun w2 w' h1 mb h2 h3 h4 => by
      unfold gErr reach; rw [hmay]
      have hl := order_len h ws
      refine ⟨_, [mb], rfl, ?_, h1.trans' h2, fun q hq => by simp at hq; subst hq; have := h1.size; omega⟩
      rw [show ((if true = true then (order h ws).1 else [])) = (order h ws).1 from rfl, hl]
      exact Row.block h4 (by rw [bv_len, hl]) hn
    have HP := Lib.hid P
    have HO := Lib.hid O
    generalize Mk 4 (bv (reach h ws)) (reach h ws).length (gErr h ws) w = R at *
    clear hr hrw hh hu hb P hmay O
    go_enter Tryd.func22, Tryd.ntmps22
    go_wp2_with fail
    refine M.mono ?_
    rintro e w2 ⟨rfl, h2⟩
    have O := HO.out w2 h2
    clear M HO
    go_wp2_with fail
    refine O.mono ?_
    rintro e w3 ⟨v, qs, mb, rfl, g1, g2, g3, g4, g5, g6⟩
    have Z := Lib.hid (HP.out w2 w3 h2 mb g3 g4 g2)
    clear O g1 g2 g3 g4 g5 g6 HP
    go_wp2_with fail
    exact Z.out
theorem Order_any (hn : h.length ≤ 1000000) (hm : m ≤ 1000000)
    (hr : RdF w ao (h.length * 4) (flat h) []) (hrw : RdF w aw m (ints .u64 ws) []) (hh : ∀ x ∈ h, InR x) (hu : ∀ v ∈ ws, u64 v) (hb : Bnd w) :
    Calls Tryd.prog 23 #[.slice ao h.length cap, .slice aw m cw] w (Mk 3 (nv (met h ws)) (met h ws).length (gErr h ws) w) := by
  have M := may_any w ao cap h aw m cw ws hn hm hr hrw hh hu hb
  cases hmay : may h ws
  · rw [hmay] at M
    have P : ∀ w', Ch [] w w' → Mk 3 (nv (met h ws)) (met h ws).length (gErr h ws) w (.returned (.tuple #[.slice none 0 0, .int .i64 100])) w' := fun w' hc => by
      unfold gErr met; rw [hmay]
      exact ⟨_, [], rfl, Row.nil _ _ _ _, hc, by simp⟩
    have HP := Lib.hid P
    generalize Mk 3 (nv (met h ws)) (met h ws).length (gErr h ws) w = R at *
    clear hr hrw hh hu hb P hmay
    go_enter Tryd.func23, Tryd.ntmps23
    go_wp2_with fail
    refine M.mono ?_
    rintro e w2 ⟨rfl, h2⟩
    go_wp2_with fail
    exact HP.out _ h2
  · rw [hmay] at M
    have O := fun w2 (hc : Ch [] w w2) => order_any w2 ao cap h aw m cw ws hn hm (hr.ch hc (by simp)) (hrw.ch hc (by simp)) hh hu (Bnd.ch hb hc (by simp)) hmay
    have P : ∀ w2 w', Ch [] w w2 → ∀ (v : Value) (qs : List Nat), Ch [] w2 w' → (∀ q ∈ qs, w2.heap.size ≤ q) → Row w' 3 1 v qs (order h ws).2.length (nv (order h ws).2) → Mk 3 (nv (met h ws)) (met h ws).length (gErr h ws) w (.returned (.tuple #[v, .int .i64 0])) w' := fun w2 w' h1 v qs h2 h3 h4 => by
      unfold gErr met; rw [hmay]
      exact ⟨_, qs, rfl, h4, h1.trans' h2, fun q hq => Nat.le_trans h1.size (h3 q hq)⟩
    have HP := Lib.hid P
    have HO := Lib.hid O
    generalize Mk 3 (nv (met h ws)) (met h ws).length (gErr h ws) w = R at *
    clear hr hrw hh hu hb P hmay O
    go_enter Tryd.func23, Tryd.ntmps23
    go_wp2_with fail
    refine M.mono ?_
    rintro e w2 ⟨rfl, h2⟩
    have O := HO.out w2 h2
    clear M HO
    go_wp2_with fail
    refine O.mono ?_
    rintro e w3 ⟨v, qs, mb, rfl, g1, g2, g3, g4, g5, g6⟩
    have Z := Lib.hid (HP.out w2 w3 h2 v qs g3 g6 g1)
    obtain ⟨av, cv, rfl, _⟩ := g1.rd
    clear O g1 g2 g3 g4 g5 g6 HP
    go_wp2_with fail
    exact Z.out
end
end Go.Proofs.YtggijcebobjghaaDoor.Gr
