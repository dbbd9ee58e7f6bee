/-
  THE WALK of slices.Clone of words; what barrier's closures answer.
-/
import Derived.Test.YtlhhcocdhkbdnaaDoorQJView2
import Derived.Test.YtlhhcocdhkbdnaaDoorQWalkPure
set_option linter.unusedVariables false
set_option linter.unusedSimpArgs false
set_option maxRecDepth 100000
namespace Go.Proofs.YtlhhcocdhkbdnaaDoor.Bp
open Go.RowKit Go.Proofs.YtlhhcocdhkbdnaaDoor.Wd Go.Proofs.YtlhhcocdhkbdnaaDoor.Hp Go.Proofs.YtlhhcocdhkbdnaaDoor.Gp Go.Proofs.YtlhhcocdhkbdnaaDoor.Sm Go.Proofs.YtlhhcocdhkbdnaaDoor.Gr
theorem ints_one (k : IntKind) (ws : List Int) : ∀ u ∈ ints k ws, u.oneCell' = true := by
  intro u hu
  simp only [ints, List.mem_map] at hu
  obtain ⟨v, _, rfl⟩ := hu
  rfl
/-- What a maker of one list answers, its blocks told. -/
def Mk2 (e : TypeId) (xs : List Value) (n : Nat) (w : World) (en : Ending) (w' : World) : Prop :=
  ∃ v qs, en = .returned v ∧ Row w' e 1 v qs n xs ∧ Ch [] w w' ∧ ∀ q ∈ qs, w.heap.size ≤ q ∧ q < w'.heap.size
theorem run_eql_nil {P : Program} (w : World) (t e : TypeId) (a : Option Addr) (l c : Nat) (h : P.underlying t = some (.slice e)) : (binOp .eql t (.slice a l c) (.slice none 0 0)).run P w = .ok (.bool a.isNone) w := by
  cases a with
  | none =>
    have h1 : ∀ d : Nat, (Op.equalIn (d + 1) t (.slice none l c) (.slice none 0 0)).run P w = .ok true w := fun d => by simp [Op.equalIn, run_underlying h]
    simp only [binOp]
    simp [Op.equal, Op.maxDepth, h1 9999]
  | some a =>
    have h1 : ∀ d : Nat, (Op.equalIn (d + 1) t (.slice (some a) l c) (.slice none 0 0)).run P w = .ok false w := fun d => by simp [Op.equalIn, run_underlying h]
    simp only [binOp]
    simp [Op.equal, Op.maxDepth, h1 9999]
theorem Clone_any (w : World) (aw : Option Addr) (m cw : Nat) (ws : List Int) (hm : m ≤ 1000000) (hrw : RdF w aw m (ints .u64 ws) []) :
    Calls Tryd.prog 69 #[.slice aw m cw] w (Mk2 24 (ints .u64 ws) m w) := by
  have hnil : ∀ (w : World) (a : Option Addr) (l c : Nat), _ := fun w a l c => run_eql_nil (P := Tryd.prog) w 62 _ a l c Tryd.underlying62
  obtain ⟨i0, hi, he⟩ := Option.map_eq_some_iff.1 infoWord
  simp only [Prod.mk.injEq] at he
  obtain ⟨hz0, hz1, hz2⟩ := he
  cases aw with
  | none =>
    obtain rfl : m = 0 := by
      rcases hrw.2 with h | ⟨b, off, h, _⟩
      · exact h
      · cases h
    obtain rfl : ws = [] := List.eq_nil_of_length_eq_zero (by simpa [ints] using hrw.1)
    clear hrw
    have Z : Mk2 24 (ints .u64 []) 0 w (.returned (.slice none 0 0)) w := ⟨_, [], rfl, Row.nil _ _ _ _, Ch.refl _ _, by simp⟩
    generalize Mk2 24 (ints .u64 []) 0 w = R at *
    have HZ := Lib.hid Z
    clear Z
    go_enter Tryd.func69, Tryd.ntmps69
    go_wp2_with fail
    exact HZ.out
    --exact ⟨_, [], rfl, Row.nil _ _ _ _, Ch.refl _ _, by simp⟩
  | some ad =>
    have C0 : Ch [] w (w.alloc (.cells #[] 24)) := (Ch.refl _ _).alloc _
    have HC0 := Lib.hid C0
    have HRD := Lib.hid (hrw.ch (T' := []) C0 (by simp)).rd
    have H1 := Lib.hid (ints_one .u64 ws)
    have HR0 := Lib.hid (Row.none (w.alloc (.cells #[] 24)) 24 1 [] (some ⟨w.heap.size, 0, none⟩))
    clear hrw C0
    go_enter Tryd.func69, Tryd.ntmps69
    go_wp2_with (at_builtin; go_loud (refine wpList_append_list _ rfl _ _ 62 rfl 24 i0 _ 1 8 Tryd.underlying62 hi hz0 hz1 hz2 rfl (by decide) rfl HR0.out (some ad) m cw rfl (ints .u64 ws) (by have := HRD.out; rwa [Nat.mul_one]) H1.out (by unfold maxLen; omega) (by omega) ?_))
    intro v1 w1 q1 g1 g2 g3
    obtain ⟨a1, c1, rfl, _⟩ := g1.rd
    have G1 := Lib.hid g1
    have G2 := Lib.hid g2
    have G3 := Lib.hid g3
    clear g1 g2 g3
    have Z : Hid (Mk2 24 (ints .u64 ws) m w (.returned (.slice a1 m c1)) w1) := Lib.hid (by
      have g1 := G1.out
      refine ⟨_, q1, rfl, by simpa using g1, HC0.out.trans' G2.out, fun q hq => ?_⟩
      have s0 := HC0.out.size
      rcases G3.out with rfl | ⟨q', rfl, h1, h2⟩
      · cases hq
      · simp at hq; subst hq; omega)
    generalize Mk2 24 (ints .u64 ws) m w = R at *
    go_wp2_with fail
    exact Z.out
def nofree (x : Cel) : Bool := x.k != 0
theorem holds1_any (w : World) (k c a b : Int) : Calls Tryd.prog 71 #[.agg #[.int .u8 k, .int .u8 c, .int .u64 a, .int .u64 b]] w fun e w' => e = .returned (.bool (nofree ⟨k, c, a, b⟩)) ∧ Ch [] w w' := by
  have HC := Lib.hid ((Ch.refl [] w).alloc (.cells #[.int .u8 k, .int .u8 c, .int .u64 a, .int .u64 b] 58))
  unfold nofree
  go_enter Tryd.func71, Tryd.ntmps71
  go_wp2_with fail
  go_ret
  exact ⟨rfl, HC.out⟩
theorem guarded1_any (w : World) (ar : Option Addr) (m cr : Nat) (sc en : Bool) : Calls Tryd.prog 92 #[.agg #[.slice ar m cr, .bool sc, .bool en]] w fun e w' => e = .returned (.bool true) ∧ Ch [] w w' := by
  have HC := Lib.hid ((Ch.refl [] w).alloc (.cells #[.slice ar m cr, .bool sc, .bool en] 71))
  go_enter Tryd.func92, Tryd.ntmps92
  go_wp2_with fail
  go_ret
  exact ⟨rfl, HC.out⟩
theorem guarded2_any (w : World) (ar : Option Addr) (m cr : Nat) (sc en : Bool) : Calls Tryd.prog 93 #[.agg #[.slice ar m cr, .bool sc, .bool en]] w fun e w' => e = .returned (.bool en) ∧ Ch [] w w' := by
  have HC := Lib.hid ((Ch.refl [] w).alloc (.cells #[.slice ar m cr, .bool sc, .bool en] 71))
  go_enter Tryd.func93, Tryd.ntmps93
  go_wp2_with fail
  go_ret
  exact ⟨rfl, HC.out⟩
/-- Where a walk over words stands. -/
structure WSt (w0 : World) (mb : Nat) (w : World) (lv : Value) (s : WS) (lq : List Nat) : Prop where
  row : Row w 24 1 lv lq s.2.length (ints .u64 s.2)
  met : w.heap[mb]? = some (.cells (bv s.1).toArray 4 (0, 0))
  ch : Ch [] w0 w
  lo : ∀ q ∈ lq, w0.heap.size ≤ q ∧ q < w.heap.size ∧ q ≠ mb
  mo : w0.heap.size ≤ mb
theorem WSt.chg {w0 w w' : World} {mb : Nat} {lv : Value} {s : WS} {lq : List Nat} (h : WSt w0 mb w lv s lq) (hc : Ch [] w w') : WSt w0 mb w' lv s lq :=
  ⟨h.row.ch hc (by simp), hc.heap h.met (by simp), h.ch.trans' hc, fun q hq => ⟨(h.lo q hq).1, Nat.lt_of_lt_of_le (h.lo q hq).2.1 hc.size, (h.lo q hq).2.2⟩, h.mo⟩
theorem WSt.setMet {w0 w : World} {mb : Nat} {lv : Value} {ms : List Bool} {L : List Int} {lq : List Nat} (h : WSt w0 mb w lv (ms, L) lq) (c : Nat) : WSt w0 mb (w.setCell ⟨mb, c, none⟩ (.bool true)) lv (ms.set c true, L) lq := by
  have hs : (w.setCell ⟨mb, c, none⟩ (.bool true)).heap.size = w.heap.size := by simp [World.setCell]
  refine ⟨h.row.keep (fun q hq o ho => (heap_set_ne (h.lo q hq).2.2).trans ho), ?_, h.ch.setCell _ _ (.inr h.mo), ?_, h.mo⟩
  · rw [← bv_set]; exact heap_set h.met _
  · rw [hs]; exact h.lo
theorem WSt.pushL {w0 w w' : World} {mb : Nat} {lv v' : Value} {L M : List Int} {ms : List Bool} {lq lq' : List Nat} (h : WSt w0 mb w lv (ms, L) lq)
    (hr : Row w' 24 1 v' lq' (L.length + M.length) (ints .u64 L ++ ints .u64 M)) (hc : Ch lq w w') (hq : lq' = lq ∨ ∃ q', lq' = [q'] ∧ w.heap.size ≤ q' ∧ q' < w'.heap.size) : WSt w0 mb w' v' (ms, L ++ M) lq' := by
  have hm := lt_of h.met
  have hsz := hc.size
  refine ⟨?_, hc.heap h.met (fun hm => (h.lo _ hm).2.2 rfl), h.ch.trans hc (fun x hx => .inr (h.lo x hx).1), fun q hq' => ?_, h.mo⟩
  · simp only
    rw [List.length_append, show ints .u64 (L ++ M) = ints .u64 L ++ ints .u64 M by simp [ints]]; exact hr
  · rcases hq with rfl | ⟨q', rfl, h1, h2⟩
    · have := h.lo q hq'; exact ⟨this.1, by omega, this.2.2⟩
    · simp at hq'; subst hq'
      have := h.ch.size
      exact ⟨by omega, h2, by omega⟩
end Go.Proofs.YtlhhcocdhkbdnaaDoor.Bp
