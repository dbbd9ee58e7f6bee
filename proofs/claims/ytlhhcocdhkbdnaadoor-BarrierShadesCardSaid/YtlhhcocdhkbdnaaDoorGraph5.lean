/-
  THE WALK of graph.Form.
-/
import Derived.Test.YtlhhcocdhkbdnaaDoorGraph4
set_option linter.unusedVariables false
set_option linter.unusedSimpArgs false
set_option maxRecDepth 100000
namespace Go.Proofs.YtlhhcocdhkbdnaaDoor.Gr
open Go.RowKit Go.Proofs.YtlhhcocdhkbdnaaDoor.Wd Go.Proofs.YtlhhcocdhkbdnaaDoor.Hp Go.Proofs.YtlhhcocdhkbdnaaDoor.Gp Go.Proofs.YtlhhcocdhkbdnaaDoor.Sm

theorem infoCell : (Tryd.prog.info? 58).map (fun i => (i.zero, i.size, i.bytes)) = some (some (.agg #[.int .u8 0, .int .u8 0, .int .u64 0, .int .u64 0]), 4, 24) := by kernel_rfl
theorem infoWord : (Tryd.prog.info? 24).map (fun i => (i.zero, i.size, i.bytes)) = some (some (.int .u64 0), 1, 8) := by kernel_rfl
theorem run_make_ints (w : World) (n : Nat) (h : n ≤ 1000000) : (Instr.makeSlice 50 (.int .i64 (n : Int)) (.int .i64 (n : Int))).run Tryd.prog w = .ok (.slice (some ⟨w.heap.size, 0, none⟩) n n) (w.alloc (.cells (nv (List.replicate n 0)).toArray 3)) := by
  obtain ⟨i, hi, he⟩ := Option.map_eq_some_iff.1 infoInt
  simp only [Prod.mk.injEq] at he
  obtain ⟨e1, e2, e3⟩ := he
  have := run_make (P := Tryd.prog) w 50 3 i _ Tryd.underlying50 hi e1 .i64 .i64 n n (by omega) (by omega) (by rw [e3]; omega) (by omega)
  rw [this, e2]
  have e4 : (Value.int .i64 0).cells = #[.int .i64 0] := rfl
  simp only [Int.toNat_natCast]
  rw [e4, Nat.mul_one, made_one, show nv (List.replicate n 0) = List.replicate n (.int .i64 0) by simp [nv]]

def placeK (n : Nat) (l : List Nat) : Nat → List Nat
  | 0 => List.replicate n 0
  | k + 1 => (placeK n l k).set (l.getD k 0) k
theorem placeK_len (n : Nat) (l : List Nat) : ∀ k, (placeK n l k).length = n
  | 0 => by simp [placeK]
  | k + 1 => by simp [placeK, placeK_len n l k]
theorem placeK_le (n : Nat) (l : List Nat) : ∀ k c, (placeK n l k).getD c 0 ≤ k
  | 0, c => by simp only [placeK, List.getD_eq_getElem?_getD, List.getElem?_replicate]; split <;> simp
  | k + 1, c => by
    have := placeK_le n l k c
    simp only [placeK, List.getD_eq_getElem?_getD, List.getElem?_set]
    simp only [List.getD_eq_getElem?_getD] at this
    split
    · split
      · simp
      · simp
    · omega
def place (h : List Cel) (ws : List Int) : List Nat := placeK h.length (order h ws).2 (order h ws).2.length
def moved (pl : List Nat) (x : Int) : Int := if isRef x then refW (pl.getD (cellN x).toNat 0 : Nat) else x
def formC (h : List Cel) (pl : List Nat) (c : Nat) : Cel := if (h.getD c z).k = 0 then ⟨0, 0, 0, 0⟩ else ⟨(h.getD c z).k, 0, moved pl (h.getD c z).a, moved pl (h.getD c z).b⟩
def formH (h : List Cel) (ws : List Int) : List Cel := if may h ws then (order h ws).2.map (formC h (place h ws)) else []
def formW (h : List Cel) (ws : List Int) : List Int := if may h ws then ws.map (moved (place h ws)) else []
theorem Row.rdF {w : World} {e : TypeId} {sz : Nat} {v : Value} {qs : List Nat} {n : Nat} {xs : List Value} (h : Row w e sz v qs n xs) : ∃ ao cap, v = .slice ao n cap ∧ n ≤ cap ∧ RdF w ao (n * sz) xs [] := by
  obtain ⟨ao, cap, h1, h2, h3, h4, h5⟩ := h.rd
  exact ⟨ao, cap, h1, h2, h4, h5.imp id fun ⟨b, off, a, c⟩ => ⟨b, off, a, by simp, c⟩⟩
theorem nv_set (l : List Nat) (c k : Nat) : (nv l).toArray.setIfInBounds c (.int .i64 k) = (nv (l.set c k)).toArray := by
  simp [nv, List.map_set]
def FormPost (h : List Cel) (ws : List Int) (w : World) (en : Ending) (w' : World) : Prop :=
  ∃ (vx : Value) (qx : List Nat) (vy : Value) (qy : List Nat), en = .returned (.tuple #[vx, vy, .int .i64 (gErr h ws)]) ∧ Row w' 58 4 vx qx (formH h ws).length (flat (formH h ws)) ∧ Row w' 24 1 vy qy (formW h ws).length (ints .u64 (formW h ws)) ∧ Ch [] w w' ∧ (∀ q ∈ qx, w.heap.size ≤ q) ∧ (∀ q ∈ qy, w.heap.size ≤ q) ∧ ∀ q ∈ qx, q ∉ qy
/-- The place list that is being written, in blocks of its own. -/
structure PL (bp pb n : Nat) (w : World) (pl : List Nat) : Prop where
  p : w.heap[bp]? = some (.cells #[.slice (some ⟨pb, 0, none⟩) n n] 50 (0, 0))
  q : w.heap[pb]? = some (.cells (nv pl).toArray 3 (0, 0))
theorem PL.ch {bp pb n : Nat} {w w' : World} {pl : List Nat} (h : PL bp pb n w pl) (hc : Ch [] w w') : PL bp pb n w' pl := ⟨hc.heap h.p (by simp), hc.heap h.q (by simp)⟩
theorem orderL_inv {h : List Cel} {ws : List Int} (hm : may h ws = true) : ∀ (k i : Nat) (s : St), Inv h.length s → Inv h.length (orderL h k i s)
  | 0, _, s, hs => hs
  | k + 1, i, s, hs => by
    rw [orderL]; split
    · next hi => exact orderL_inv hm k (i + 1) _ (each_all (fun s c h1 h2 => h1.meet c h2) _ _ hs (may_cells hm _ (inv_lt hs i hi)))
    · exact hs
theorem order_inv {h : List Cel} {ws : List Int} (hm : may h ws = true) : Inv h.length (order h ws) :=
  orderL_inv hm _ _ _ (each_all (fun s c h1 h2 => h1.meet c h2) _ _ (Inv.start _) (may_roots hm))
theorem take_snoc {α : Type} (l : List α) (j : Nat) (d : α) (h : j < l.length) : l.take (j + 1) = l.take j ++ [l.getD j d] := by
  rw [List.take_succ_eq_append_getElem h]; simp [List.getD, h]
theorem moved_u {pl : List Nat} {x : Int} (h : u64 x) : u64 (moved pl x) := by
  unfold moved; split
  · exact mkW_range _ _
  · exact h
def formL (h : List Cel) (pl : List Nat) (l : List Nat) (j : Nat) : List Value := flat ((l.take j).map (formC h pl))
theorem formL_snoc (h : List Cel) (pl : List Nat) (l : List Nat) (j : Nat) (hj : j < l.length) : formL h pl l (j + 1) = formL h pl l j ++ celV (formC h pl (l.getD j 0)) := by
  unfold formL
  rw [take_snoc l j 0 hj, List.map_append, flat_append]
  simp [flat]
def movL (pl : List Nat) (ws : List Int) (j : Nat) : List Value := ints .u64 ((ws.take j).map (moved pl))
theorem movL_snoc (pl : List Nat) (ws : List Int) (j : Nat) (hj : j < ws.length) : movL pl ws (j + 1) = movL pl ws j ++ [.int .u64 (moved pl (ws.getD j 0))] := by
  unfold movL
  rw [take_snoc ws j 0 hj, List.map_append]
  simp [ints]
section
variable (w : World) (ao : Option Addr) (cap : Nat) (h : List Cel) (aw : Option Addr) (m cw : Nat) (ws : List Int)
end
end Go.Proofs.YtlhhcocdhkbdnaaDoor.Gr
