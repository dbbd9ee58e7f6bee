/-
  MarkDoes' state in memory (no walk): both markers, their heaps, the book; who owns which block.
-/
import Derived.Test.YtefamhdkfdgdjaaDoorQRef15b
import Derived.Test.YtefamhdkfdgdjaaDoorQSwap0
import Derived.Test.YtefamhdkfdgdjaaDoorQBook13
import Derived.Test.YtefamhdkfdgdjaaDoorQJLentW
import Derived.Test.YtefamhdkfdgdjaaDoorQMade
import Derived.Test.YtefamhdkfdgdjaaDoorQMRun2
set_option linter.unusedVariables false
set_option linter.unusedSimpArgs false
set_option maxRecDepth 100000
namespace Go.Proofs.YtefamhdkfdgdjaaDoor.L15
open Go.RowKit Go.Proofs.YtefamhdkfdgdjaaDoor.Wd Go.Proofs.YtefamhdkfdgdjaaDoor.Hp Go.Proofs.YtefamhdkfdgdjaaDoor.Cp Go.Proofs.YtefamhdkfdgdjaaDoor.Cl Go.Proofs.YtefamhdkfdgdjaaDoor.Mk Go.Proofs.YtefamhdkfdgdjaaDoor.R03 Go.Proofs.YtefamhdkfdgdjaaDoor.R15 Go.Proofs.YtefamhdkfdgdjaaDoor.Sm Go.Proofs.YtefamhdkfdgdjaaDoor.Own
/-- Owners: 1 the marker and its heap, 2 the document's, 3 what is lent, 5, 6, 7 the book. -/
structure DS (w0 w : World) (O : Nat → Nat) (bp ni mp p s : Nat) (F rq : List Nat) (l : List Cel) (row : List Int) (qp rp rb : Nat) (rq2 : List Nat) (l2 : List Cel) (row2 : List Int) : Prop where
  g : G w0 w O
  bk : Bk w O bp ni
  mm : MM w mp p s F l row rq
  rk : RK w qp rp rb l2 row2 rq2
  o1 : ∀ x ∈ mp :: (F ++ rq), O x = 1
  o2 : ∀ x ∈ qp :: rp :: rb :: rq2, O x = 2
section
variable {w0 w w' : World} {O O' : Nat → Nat} {bp ni ni' mp p s : Nat} {F rq F' rq' : List Nat} {l l' : List Cel} {row row' : List Int} {qp rp rb : Nat} {rq2 rq2' : List Nat} {l2 l2' : List Cel} {row2 row2' : List Int} {T : List Nat}
theorem DS.fresh (h : DS w0 w O bp ni mp p s F rq l row qp rp rb rq2 l2 row2) {x : Nat} (hx : w.heap.size ≤ x) : O x = 0 := by
  rcases Nat.eq_zero_or_pos (O x) with e | e
  · exact e
  · have := h.g.ow x (by omega); omega
theorem DS.t1 (h : DS w0 w O bp ni mp p s F rq l row qp rp rb rq2 l2 row2) : ∀ x ∈ mp :: s :: rq, O x = 1 := fun x hx => by
  rcases List.mem_cons.1 hx with rfl | hx
  · exact h.o1 _ (by simp)
  · rcases List.mem_cons.1 hx with rfl | hx
    · exact h.o1 _ (by simp [h.mm.is.sf])
    · exact h.o1 x (by simp [hx])
theorem DS.t2 (h : DS w0 w O bp ni mp p s F rq l row qp rp rb rq2 l2 row2) : ∀ x ∈ qp :: rb :: rq2, O x = 2 := fun x hx => h.o2 x (by simp only [List.mem_cons] at hx ⊢; rcases hx with e | e | e <;> simp [e])
theorem DS.keep (h : DS w0 w O bp ni mp p s F rq l row qp rp rb rq2 l2 row2) (hg : G w0 w' O') (hx : Ext O O') (hb : Bk w' O' bp ni') (hc : Ch T w w') (hT : ∀ x ∈ T, O x ≠ 1 ∧ O x ≠ 2) : DS w0 w' O' bp ni' mp p s F rq l row qp rp rb rq2 l2 row2 := by
  have a1 : ∀ x ∈ mp :: (F ++ rq), x ∉ T := fun x hm => apart (h.o1 x hm) (fun y hy => (hT y hy).1)
  have a2 : ∀ x ∈ qp :: rp :: rb :: rq2, x ∉ T := fun x hm => apart (h.o2 x hm) (fun y hy => (hT y hy).2)
  exact ⟨hg, hb, h.mm.ch hc (a1 _ (by simp)) (fun b hb => a1 b (by simp [hb])) (fun q hq => a1 q (by simp [hq])), h.rk.ch hc (a2 _ (by simp)) (a2 _ (by simp)) (a2 _ (by simp)) (fun q hq => a2 q (by simp [hq])), fun x hm => by rw [hx x (by rw [h.o1 x hm]; omega)]; exact h.o1 x hm, fun x hm => by rw [hx x (by rw [h.o2 x hm]; omega)]; exact h.o2 x hm⟩
/-- What nobody of these has has changed. -/
theorem DS.step (h : DS w0 w O bp ni mp p s F rq l row qp rp rb rq2 l2 row2) (hc : Ch T w w') (hT : ∀ x ∈ T, O x = 3 ∨ w.heap.size ≤ x) : DS w0 w' O bp ni mp p s F rq l row qp rp rb rq2 l2 row2 := by
  have hT' : ∀ x ∈ T, O x = 3 ∨ O x = 0 := fun x hm => (hT x hm).imp id (fun hl => h.fresh hl)
  exact h.keep (h.g.step hc (fun x hm => (hT x hm).imp (fun e => by omega) id)) (Ext.refl O) (h.bk.keep hc (Ext.refl O) (fun x hm => by rcases hT' x hm with e | e <;> omega)) hc (fun x hm => by rcases hT' x hm with e | e <;> omega)
theorem DS.chs (h : DS w0 w O bp ni mp p s F rq l row qp rp rb rq2 l2 row2) (hc : Ch [] w w') : DS w0 w' O bp ni mp p s F rq l row qp rp rb rq2 l2 row2 := h.step hc (by simp)
/-- A block that is lent. -/
theorem DS.lent (h : DS w0 w O bp ni mp p s F rq l row qp rp rb rq2 l2 row2) {q : Nat} (hq : w.heap.size ≤ q ∧ q < w'.heap.size) (hc : Ch [] w w') : DS w0 w' (put O 3 [q]) bp ni mp p s F rq l row qp rp rb rq2 l2 row2 ∧ put O 3 [q] q = 3 := by
  have h1 := h.chs hc
  have hx : Ext O (put O 3 [q]) := put_ext (w' := w) h.g 3 [q] (fun x hm => by simp at hm; subst hm; exact .inr hq.1)
  refine ⟨h1.keep (h1.g.put 3 [q] (fun x hm => by simp at hm; subst hm; exact .inr ⟨Nat.le_trans h.g.ch.size hq.1, hq.2⟩)) hx (h1.bk.keep (Ch.refl [] _) hx (by simp)) (Ch.refl [] _) (by simp), put_at O 3 [q] q (by simp)⟩
/-- The marker has changed. -/
theorem DS.mark (h : DS w0 w O bp ni mp p s F rq l row qp rp rb rq2 l2 row2) (hm : MM w' mp p s F' l' row' rq') (hc : Ch (mp :: s :: rq) w w') (hF : ∀ b ∈ F', b ∈ F ∨ w.heap.size ≤ b) (hq : ∀ q ∈ rq', q ∈ rq ∨ w.heap.size ≤ q) :
    DS w0 w' (put O 1 (F' ++ rq')) bp ni mp p s F' rq' l' row' qp rp rb rq2 l2 row2 ∧ Ext O (put O 1 (F' ++ rq')) ∧ ∀ x, x ∉ F' → x ∉ rq' → put O 1 (F' ++ rq') x = O x := by
  have hl : ∀ x ∈ F' ++ rq', O x = 1 ∨ w.heap.size ≤ x := fun x hx => by
    rcases List.mem_append.1 hx with hx | hx
    · exact (hF x hx).imp (fun e => h.o1 x (by simp [e])) id
    · exact (hq x hx).imp (fun e => h.o1 x (by simp [e])) id
  have hT1 : ∀ x ∈ mp :: s :: rq, O x = 1 := fun x hx => by
    rcases List.mem_cons.1 hx with rfl | hx
    · exact h.o1 _ (by simp)
    · rcases List.mem_cons.1 hx with rfl | hx
      · exact h.o1 _ (by simp [h.mm.is.sf])
      · exact h.o1 x (by simp [hx])
  have hx := put_ext (w' := w) h.g 1 (F' ++ rq') hl
  have g1 := h.g.step hc (fun x hm => .inl (by rw [hT1 x hm]; omega))
  have g2 := g1.put 1 (F' ++ rq') (fun x hm1 => by
    rcases hl x hm1 with e | e
    · exact .inl e
    · refine .inr ⟨Nat.le_trans h.g.ch.size e, ?_⟩
      rcases List.mem_append.1 hm1 with hm1 | hm1
      · exact hm.is.lt x hm1
      · exact (hm.rf x hm1).2)
  have a2 : ∀ x ∈ qp :: rp :: rb :: rq2, x ∉ mp :: s :: rq := fun x hm1 => apart (h.o2 x hm1) (fun y hy => by rw [hT1 y hy]; omega)
  refine ⟨⟨g2, h.bk.keep hc hx (fun x hm1 => by rw [hT1 x hm1]; omega), hm, h.rk.ch hc (a2 _ (by simp)) (a2 _ (by simp)) (a2 _ (by simp)) (fun q hq1 => a2 q (by simp [hq1])), fun x hm1 => ?_, fun x hm1 => by rw [hx x (by rw [h.o2 x hm1]; omega)]; exact h.o2 x hm1⟩, hx, fun x h1 h2 => ?_⟩
  · rcases List.mem_cons.1 hm1 with rfl | hm1
    · rw [hx _ (by rw [h.o1 _ (by simp)]; omega)]; exact h.o1 _ (by simp)
    · exact put_at O 1 _ x hm1
  · unfold put; rw [if_neg (by simp [h1, h2])]
/-- The document's marker has changed. -/
theorem DS.ref (h : DS w0 w O bp ni mp p s F rq l row qp rp rb rq2 l2 row2) (hm : RK w' qp rp rb l2' row2' rq2') (hc : Ch (qp :: rb :: rq2) w w') (hq : ∀ q ∈ rq2', q ∈ rq2 ∨ w.heap.size ≤ q) :
    DS w0 w' (put O 2 rq2') bp ni mp p s F rq l row qp rp rb rq2' l2' row2' ∧ Ext O (put O 2 rq2') ∧ ∀ x, x ∉ rq2' → put O 2 rq2' x = O x := by
  have hl : ∀ x ∈ rq2', O x = 2 ∨ w.heap.size ≤ x := fun x hx => (hq x hx).imp (fun e => h.o2 x (by simp [e])) id
  have hT1 : ∀ x ∈ qp :: rb :: rq2, O x = 2 := fun x hx => h.o2 x (by simp only [List.mem_cons] at hx ⊢; rcases hx with e | e | e <;> simp [e])
  have hx := put_ext (w' := w) h.g 2 rq2' hl
  have g1 := h.g.step hc (fun x hm => .inl (by rw [hT1 x hm]; omega))
  have g2 := g1.put 2 rq2' (fun x hm1 => by
    rcases hl x hm1 with e | e
    · exact .inl e
    · exact .inr ⟨Nat.le_trans h.g.ch.size e, hm.rf x hm1⟩)
  have a1 : ∀ x ∈ mp :: (F ++ rq), x ∉ qp :: rb :: rq2 := fun x hm1 => apart (h.o1 x hm1) (fun y hy => by rw [hT1 y hy]; omega)
  refine ⟨⟨g2, h.bk.keep hc hx (fun x hm1 => by rw [hT1 x hm1]; omega), h.mm.ch hc (a1 _ (by simp)) (fun b hb => a1 b (by simp [hb])) (fun q hq1 => a1 q (by simp [hq1])), hm, fun x hm1 => by rw [hx x (by rw [h.o1 x hm1]; omega)]; exact h.o1 x hm1, fun x hm1 => ?_⟩, hx, fun x h1 => ?_⟩
  · by_cases hr : x ∈ rq2'
    · exact put_at O 2 _ x hr
    · have h2 : x ∈ qp :: rp :: rb :: rq2 := by
        simp only [List.mem_cons] at hm1 ⊢
        rcases hm1 with e | e | e | e
        · simp [e]
        · simp [e]
        · simp [e]
        · exact absurd e hr
      rw [hx x (by rw [h.o2 x h2]; omega)]; exact h.o2 x h2
  · unfold put; rw [if_neg h1]
theorem un {x : Nat} (h0 : O x = 0) (hT : ∀ y ∈ T, O y ≠ 0) : x ∉ T := fun hm => hT x hm h0
theorem rdT_at {xs : List Value} {q n : Nat} (h : Hp.Rd w (some ⟨q, 0, none⟩) n xs) (hq : q ∉ T) : RdT w (some ⟨q, 0, none⟩) n xs T := by
  refine ⟨h.1, h.2.imp id ?_⟩
  rintro ⟨b, off, e, hj⟩
  simp only [Option.some.injEq, Addr.mk.injEq, and_true] at e
  obtain ⟨rfl, rfl⟩ := e
  exact ⟨q, 0, rfl, hq, hj⟩
theorem rdF_of {xs : List Value} {ao : Option Addr} {n : Nat} (h : Hp.Rd w ao n xs) : Gr.RdF w ao n xs [] := ⟨h.1, h.2.imp id (fun ⟨b, off, a, c⟩ => ⟨b, off, a, by simp, c⟩)⟩
theorem DS.bnd (h : DS w0 w O bp ni mp p s F rq l row qp rp rb rq2 l2 row2) (hb : Bnd w0) : Bnd w ∧ O 0 = 0 := by
  refine ⟨Bnd.ch hb h.g.ch (by simp), ?_⟩
  have h1 := World.block_lt_of_cell? w0 _ (hb 0 (by omega)).1
  rcases Nat.eq_zero_or_pos (O 0) with e | e
  · exact e
  · have := h.g.ow _ (show O 0 ≠ 0 by omega)
    have h2 : 0 < w0.heap.size := h1
    omega
end
/-- A step that is handed over. -/
structure OpI (w0 : World) (aw : Option Addr) (nw cw : Nat) (ws : List Int) (ac : Option Addr) (nc cc : Nat) (cs : List Int) (cC cD ow : Int) : Prop where
  hw : Hp.Rd w0 aw nw (ints .u64 ws)
  hwc : nw ≤ cw ∧ cw ≤ maxLen
  hwu : ∀ v ∈ ws, 0 ≤ v ∧ v < 18446744073709551616
  hc : Hp.Rd w0 ac nc (ints .i64 cs)
  hcc : nc ≤ cc ∧ cc ≤ maxLen
  hn : nw ≤ 20000 ∧ nc ≤ 20000
  hC : 0 ≤ cC ∧ 0 ≤ cD
  ho : 0 ≤ ow ∧ ow < 18446744073709551616
def opA (kd : Int) (aw : Option Addr) (nw cw : Nat) (ac : Option Addr) (nc cc : Nat) (ce cC cD ow : Int) : Array Value := #[.int .i64 kd, .slice aw nw cw, .slice ac nc cc, .int .i64 ce, .int .u8 cC, .int .u8 cD, .int .u64 ow]
/-- What a step leaves. -/
def SP (w0 : World) (bp ni mp p s qp rp rb : Nat) (row : List Int) (c : Nat) (w' : World) : Prop :=
  ∃ (O : Nat → Nat) (ni' : Nat) (F rq : List Nat) (l : List Cel) (row' : List Int) (rq2 : List Nat), DS w0 w' O bp ni' mp p s F rq l row' qp rp rb rq2 l row' ∧ ni' ≤ ni + 2 ∧ row'.length ≤ row.length + c
end Go.Proofs.YtefamhdkfdgdjaaDoor.L15
