/-
  MarkReach's state in memory (no walk): the marker, its heap, the law's own row of what was told.
-/
import Derived.Test.YtefamhdkfdgdjaaDoorQBlack
import Derived.Test.YtefamhdkfdgdjaaDoorQMReachP4
set_option linter.unusedVariables false
set_option linter.unusedSimpArgs false
set_option maxRecDepth 100000
namespace Go.Proofs.YtefamhdkfdgdjaaDoor.L15
open Go.RowKit Go.Proofs.YtefamhdkfdgdjaaDoor.Wd Go.Proofs.YtefamhdkfdgdjaaDoor.Hp Go.Proofs.YtefamhdkfdgdjaaDoor.Cp Go.Proofs.YtefamhdkfdgdjaaDoor.Cl Go.Proofs.YtefamhdkfdgdjaaDoor.Mk Go.Proofs.YtefamhdkfdgdjaaDoor.R03 Go.Proofs.YtefamhdkfdgdjaaDoor.Mr Go.Proofs.YtefamhdkfdgdjaaDoor.Sm
/-- R was told, the first n of it were scanned; the law's row rv holds R, in blocks ro of its own. -/
structure ST (w0 w : World) (mp p s : Nat) (F rq : List Nat) (pl : List Cel) (ws : List Int) (l : List Cel) (R : List Int) (n : Nat) (rv : Value) (ro : List Nat) : Prop where
  mm : MM w mp p s F l (R.drop n) rq
  mi : MI pl ws l R n
  row : Row w 3 1 rv ro R.length (ints .i64 R)
  ch : Ch [] w0 w
  new : w0.heap.size ≤ mp ∧ (∀ b ∈ F, w0.heap.size ≤ b) ∧ (∀ q ∈ rq, w0.heap.size ≤ q) ∧ ∀ q ∈ ro, w0.heap.size ≤ q
  ap : ∀ q ∈ ro, q ≠ mp ∧ q ∉ F ∧ q ∉ rq
  lt : ∀ q ∈ ro, q < w.heap.size
theorem ST.old {w0 w : World} {mp p s : Nat} {F rq : List Nat} {pl : List Cel} {ws : List Int} {l : List Cel} {R : List Int} {n : Nat} {rv : Value} {ro : List Nat} (h : ST w0 w mp p s F rq pl ws l R n rv ro) {b : Nat} (hb : b < w0.heap.size) : b ∉ mp :: s :: rq := by
  have hs := h.new.2.1 s h.mm.is.sf
  intro hm
  rcases List.mem_cons.1 hm with e | hm
  · have := h.new.1; omega
  · rcases List.mem_cons.1 hm with e | hm
    · omega
    · have := h.new.2.2.1 b hm; omega
/-- The law's row has grown by what came out (its blocks ro2 now), the marker stays. -/
theorem ST.grow {w0 w w2 w4 : World} {mp p s : Nat} {F rq F' rq' : List Nat} {pl : List Cel} {ws ws' : List Int} {l l' : List Cel} {R out : List Int} {n n' : Nat} {rv rv2 : Value} {ro ro2 : List Nat} (h : ST w0 w mp p s F rq pl ws l R n rv ro)
    (hm : MM w2 mp p s F' l' ((R ++ out).drop n') rq') (hi : MI pl ws' l' (R ++ out) n') (hc : Ch (mp :: s :: rq) w w2) (hF : ∀ b ∈ F', b ∈ F ∨ w.heap.size ≤ b) (hq : ∀ q ∈ rq', q ∈ rq ∨ w.heap.size ≤ q)
    (hr : Row w4 3 1 rv2 ro2 (R.length + out.length) (ints .i64 R ++ ints .i64 out)) (hc4 : Ch ro w2 w4) (hro : ro2 = ro ∨ ∃ q', ro2 = [q'] ∧ w2.heap.size ≤ q' ∧ q' < w4.heap.size) : ST w0 w4 mp p s F' rq' pl ws' l' (R ++ out) n' rv2 ro2 := by
  have s1 := h.ch.size
  have s2 := hc.size
  have s3 := hc4.size
  have hmpl : mp < w.heap.size := by obtain ⟨v, g, _⟩ := h.mm.hm; exact lt_of g
  have hmF : ∀ b ∈ F', b < w2.heap.size := hm.is.lt
  have hmq : ∀ q ∈ rq', q < w2.heap.size := fun q hq => (hm.rf q hq).2
  have hsnew := h.new.2.1 s h.mm.is.sf
  have hrF : ∀ q ∈ ro, q ∉ F' := fun q hq1 hm1 => by
    rcases hF q hm1 with e | e
    · exact (h.ap q hq1).2.1 e
    · have := h.lt q hq1; omega
  have hrq : ∀ q ∈ ro, q ∉ rq' := fun q hq1 hm1 => by
    rcases hq q hm1 with e | e
    · exact (h.ap q hq1).2.2 e
    · have := h.lt q hq1; omega
  refine ⟨hm.ch hc4 (fun e => (h.ap _ e).1 rfl) (fun b hb e => hrF b e hb) (fun q hq1 e => hrq q e hq1), hi, ?_, ?_, ⟨h.new.1, fun b hb => ?_, fun q hq1 => ?_, fun q hq1 => ?_⟩, fun q hq1 => ?_, fun q hq1 => ?_⟩
  · rw [List.length_append, show ints .i64 (R ++ out) = ints .i64 R ++ ints .i64 out by simp [ints]]; exact hr
  · exact (h.ch.trans hc (fun x hx => .inr (by
      rcases List.mem_cons.1 hx with e | hx
      · rw [e]; exact h.new.1
      · rcases List.mem_cons.1 hx with e | hx
        · rw [e]; exact hsnew
        · exact h.new.2.2.1 x hx))).trans hc4 (fun x hx => .inr (h.new.2.2.2 x hx))
  · rcases hF b hb with e | e
    · exact h.new.2.1 b e
    · omega
  · rcases hq q hq1 with e | e
    · exact h.new.2.2.1 q e
    · omega
  · rcases hro with e | ⟨q', e, h1, h2⟩
    · rw [e] at hq1; exact h.new.2.2.2 q hq1
    · rw [e] at hq1; simp at hq1; omega
  · rcases hro with e | ⟨q', e, h1, h2⟩
    · rw [e] at hq1; exact ⟨(h.ap q hq1).1, hrF q hq1, hrq q hq1⟩
    · rw [e] at hq1; simp at hq1; subst hq1
      exact ⟨by omega, fun hm1 => by have := hmF _ hm1; omega, fun hm1 => by have := hmq _ hm1; omega⟩
  · rcases hro with e | ⟨q', e, h1, h2⟩
    · rw [e] at hq1; have := h.lt q hq1; omega
    · rw [e] at hq1; simp at hq1; omega
theorem ST.chs {w0 w w' : World} {mp p s : Nat} {F rq : List Nat} {pl : List Cel} {ws : List Int} {l : List Cel} {R : List Int} {n : Nat} {rv : Value} {ro : List Nat} (h : ST w0 w mp p s F rq pl ws l R n rv ro) (hc : Ch [] w w') : ST w0 w' mp p s F rq pl ws l R n rv ro := by
  have s1 := hc.size
  exact ⟨h.mm.ch0 hc, h.mi, h.row.ch hc (by simp), h.ch.trans' hc, h.new, h.ap, fun q hq => by have := h.lt q hq; omega⟩
end Go.Proofs.YtefamhdkfdgdjaaDoor.L15
