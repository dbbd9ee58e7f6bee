/-
  MarkReach's steps on its state in memory (no walk but the two contracts' turn).
-/
import Derived.Test.YtefamhdkfdgdjaaDoorQMRun
import Derived.Test.YtefamhdkfdgdjaaDoorQApart
set_option linter.unusedVariables false
set_option linter.unusedSimpArgs false
set_option maxRecDepth 100000
namespace Go.Proofs.YtefamhdkfdgdjaaDoor.L15
open Go.RowKit Go.Proofs.YtefamhdkfdgdjaaDoor.Wd Go.Proofs.YtefamhdkfdgdjaaDoor.Hp Go.Proofs.YtefamhdkfdgdjaaDoor.Cp Go.Proofs.YtefamhdkfdgdjaaDoor.Cl Go.Proofs.YtefamhdkfdgdjaaDoor.Mk Go.Proofs.YtefamhdkfdgdjaaDoor.R03 Go.Proofs.YtefamhdkfdgdjaaDoor.Mr Go.Proofs.YtefamhdkfdgdjaaDoor.Sm
theorem rd_old {w W : World} {ao : Option Addr} {m : Nat} {xs : List Value} {T : List Nat} (hr : Hp.Rd w ao m xs) (hc : Ch [] w W) (hT : ∀ b, b < w.heap.size → b ∉ T) : RdT W ao m xs T := by
  refine ⟨hr.1, ?_⟩
  rcases hr.2 with h | ⟨b, off, rfl, hj⟩
  · exact .inl h
  · by_cases hm : m = 0
    · exact .inl hm
    · refine .inr ⟨b, off, rfl, hT b ?_, fun j hjm => ?_⟩
      · have := hj 0 (by omega)
        obtain ⟨x, hx⟩ : ∃ x, xs[0]? = some x := ⟨xs[0]'(by rw [hr.1]; omega), by simp⟩
        rw [hx] at this
        exact World.block_lt_of_cell? w _ this
      · obtain ⟨x, hx⟩ : ∃ x, xs[j]? = some x := ⟨xs[j]'(by rw [hr.1]; omega), by simp [hr.1, hjm]⟩
        rw [hx]
        exact hc.cell (by rw [hj j hjm]; exact hx) (by simp)
theorem ST.shade {w0 w : World} {mp p s : Nat} {F rq : List Nat} {pl : List Cel} {ws : List Int} {l : List Cel} {R : List Int} {n : Nat} {rv : Value} {ro : List Nat} (h : ST w0 w mp p s F rq pl ws l R n rv ro) (hp : pl.length = 16)
    (ar : Option Addr) (m2 cr : Nat) (more : List Int) (hm2 : m2 ≤ 20000) (hr : Hp.Rd w0 ar m2 (ints .u64 more)) (hu : ∀ v ∈ more, 0 ≤ v ∧ v < 18446744073709551616) (hb : Bnd w0) :
    Calls Tryd.prog 12 #[.pointer (some ⟨mp, 0, none⟩), .slice ar m2 cr] w (LayPost w mp p s F rq (shS l more).1 (R.drop n ++ (shS l more).2) (shS l more).2) := by
  have h1 := h.mi.small
  refine Shade_any w mp p s F l (R.drop n) rq ar m2 cr more h.mm (rd_old hr h.ch (fun b hb1 => h.old hb1)) (by simp; omega) hu (Bnd.ch hb h.ch (by simp)) (h.old (World.block_lt_of_cell? w0 _ (hb 0 (by omega)).1))
theorem ST.scan {w0 w : World} {mp p s : Nat} {F rq : List Nat} {pl : List Cel} {ws : List Int} {l : List Cel} {R : List Int} {n : Nat} {rv : Value} {ro : List Nat} (h : ST w0 w mp p s F rq pl ws l R n rv ro) (hp : pl.length = 16) (hn : n < R.length) (hb : Bnd w0) :
    Calls Tryd.prog 13 #[.pointer (some ⟨mp, 0, none⟩)] w (ScanPost w mp p s F rq (R.getD n 0) (scanC l (R.getD n 0)).1 (R.drop (n + 1) ++ (scanC l (R.getD n 0)).2) (scanC l (R.getD n 0)).2) := by
  have h1 := h.mi.small
  have e : R.drop n = R.getD n 0 :: R.drop (n + 1) := by
    rw [List.drop_eq_getElem_cons hn]; simp [List.getD_eq_getElem?_getD, hn]
  have hm := h.mm
  rw [e] at hm
  exact Scan_any w mp p s F l (R.getD n 0) (R.drop (n + 1)) rq hm (by simp; omega) (Bnd.ch hb h.ch (by simp)) (h.old (World.block_lt_of_cell? w0 _ (hb 0 (by omega)).1))
theorem ST.scan0 {w0 w : World} {mp p s : Nat} {F rq : List Nat} {pl : List Cel} {ws : List Int} {l : List Cel} {R : List Int} {n : Nat} {rv : Value} {ro : List Nat} (h : ST w0 w mp p s F rq pl ws l R n rv ro) (hn : ¬ n < R.length) :
    Calls Tryd.prog 13 #[.pointer (some ⟨mp, 0, none⟩)] w fun e w' => e = .returned (.tuple #[.int .i64 0, .slice none 0 0, .bool false]) ∧ w' = w := by
  have hm := h.mm
  rw [List.drop_eq_nil_of_le (by omega)] at hm
  exact ScanNil_any w mp p s F l rq hm
theorem ST.row2 {w0 w w2 : World} {mp p s : Nat} {F rq : List Nat} {pl : List Cel} {ws : List Int} {l : List Cel} {R : List Int} {n : Nat} {rv : Value} {ro : List Nat} (h : ST w0 w mp p s F rq pl ws l R n rv ro) (hc : Ch (mp :: s :: rq) w w2) : Row w2 3 1 rv ro R.length (ints .i64 R) :=
  h.row.ch hc (fun q hq hm => by
    obtain ⟨a1, a2, a3⟩ := h.ap q hq
    rcases List.mem_cons.1 hm with e | hm
    · exact a1 e
    · rcases List.mem_cons.1 hm with e | hm
      · exact a2 (e ▸ h.mm.is.sf)
      · exact a3 hm)
theorem mi_apart {pl : List Cel} {ws : List Int} {l : List Cel} {R : List Int} {n : Nat} (h : MI pl ws l R n) : Apart l := fun c hc h2 v hv hr hl hk => h.apart (by rw [← h.ci.len]; exact hc) h2 hv hr (by rw [← h.ci.len]; exact hl) hk
/-- More words were shaded, what came out is in the row. -/
theorem ST.shaded {w0 w w2 w4 : World} {mp p s : Nat} {F rq F' rq' : List Nat} {pl : List Cel} {ws more : List Int} {l : List Cel} {R : List Int} {n : Nat} {rv rv2 : Value} {ro ro2 : List Nat} (h : ST w0 w mp p s F rq pl ws l R n rv ro)
    (hm : MM w2 mp p s F' (shS l more).1 (R.drop n ++ (shS l more).2) rq') (hc : Ch (mp :: s :: rq) w w2) (hF : ∀ b ∈ F', b ∈ F ∨ w.heap.size ≤ b) (hq : ∀ q ∈ rq', q ∈ rq ∨ w.heap.size ≤ q)
    (hr : Row w4 3 1 rv2 ro2 (R.length + (shS l more).2.length) (ints .i64 R ++ ints .i64 (shS l more).2)) (hc4 : Ch ro w2 w4) (hro : ro2 = ro ∨ ∃ q', ro2 = [q'] ∧ w2.heap.size ≤ q' ∧ q' < w4.heap.size) :
    ST w0 w4 mp p s F' rq' pl (ws ++ more) (shS l more).1 (R ++ (shS l more).2) n rv2 ro2 := by
  have e : (R ++ (shS l more).2).drop n = R.drop n ++ (shS l more).2 := List.drop_append_of_le_length h.mi.le
  exact h.grow (by rw [e]; exact hm) (h.mi.shade more) hc hF hq hr hc4 hro
/-- The first one was looked into. -/
theorem ST.scanned {w0 w w2 w4 : World} {mp p s : Nat} {F rq F' rq' : List Nat} {pl : List Cel} {ws : List Int} {l : List Cel} {R : List Int} {n : Nat} {rv rv2 : Value} {ro ro2 : List Nat} (h : ST w0 w mp p s F rq pl ws l R n rv ro) (hn : n < R.length)
    (hm : MM w2 mp p s F' (scanC l (R.getD n 0)).1 (R.drop (n + 1) ++ (scanC l (R.getD n 0)).2) rq') (hc : Ch (mp :: s :: rq) w w2) (hF : ∀ b ∈ F', b ∈ F ∨ w.heap.size ≤ b) (hq : ∀ q ∈ rq', q ∈ rq ∨ w.heap.size ≤ q)
    (hr : Row w4 3 1 rv2 ro2 (R.length + (scanC l (R.getD n 0)).2.length) (ints .i64 R ++ ints .i64 (scanC l (R.getD n 0)).2)) (hc4 : Ch ro w2 w4) (hro : ro2 = ro ∨ ∃ q', ro2 = [q'] ∧ w2.heap.size ≤ q' ∧ q' < w4.heap.size) :
    ST w0 w4 mp p s F' rq' pl ws (scanC l (R.getD n 0)).1 (R ++ (scanC l (R.getD n 0)).2) (n + 1) rv2 ro2 := by
  have e : (R ++ (scanC l (R.getD n 0)).2).drop (n + 1) = R.drop (n + 1) ++ (scanC l (R.getD n 0)).2 := List.drop_append_of_le_length hn
  exact h.grow (by rw [e]; exact hm) (h.mi.scan hn) hc hF hq hr hc4 hro
/-- The state at the loop's start. -/
theorem ST.start {w0 w5 w6 : World} {mp p s : Nat} {F F' rq' : List Nat} {pl : List Cel} {ws : List Int} {v : Value} {qs : List Nat} (hpl : PlainOk pl) (h0 : Ch [] w0 w5) (hs : w0.heap.size ≤ mp ∧ ∀ b ∈ F, w0.heap.size ≤ b) (hsF : s ∈ F)
    (hm : MM w6 mp p s F' (shS pl ws).1 ([] ++ (shS pl ws).2) rq') (hc : Ch (mp :: s :: []) w5 w6) (hF : ∀ b ∈ F', b ∈ F ∨ w5.heap.size ≤ b) (hq : ∀ q ∈ rq', q ∈ ([] : List Nat) ∨ w5.heap.size ≤ q)
    (hr : Row w6 3 1 v qs (shS pl ws).2.length (ints .i64 (shS pl ws).2)) (hqs : ∀ q ∈ qs, w5.heap.size ≤ q ∧ q < w6.heap.size ∧ q ∉ F' ∧ q ∉ rq' ∧ q ≠ mp) :
    ST w0 w6 mp p s F' rq' pl ws (shS pl ws).1 (shS pl ws).2 0 v qs := by
  have s1 := h0.size
  have hz : ∀ x ∈ pl, x.c = 0 := fun x hx => by
    obtain ⟨i, hi, rfl⟩ := List.getElem_of_mem hx
    have := (hpl.cel i (by rw [← hpl.len]; exact hi)).2.1
    simpa [List.getD_eq_getElem?_getD, hi] using this
  have hi := (MI.start pl hz).shade ws
  simp only [List.nil_append] at hi hm
  refine ⟨by simpa using hm, hi, hr, h0.trans hc (fun x hx => .inr ?_), ⟨hs.1, fun b hb => ?_, fun q hq1 => ?_, fun q hq1 => ?_⟩, fun q hq1 => ?_, fun q hq1 => (hqs q hq1).2.1⟩
  · rcases List.mem_cons.1 hx with e | hx
    · rw [e]; exact hs.1
    · simp at hx; rw [hx]; exact hs.2 s hsF
  · rcases hF b hb with e | e
    · exact hs.2 b e
    · omega
  · rcases hq q hq1 with e | e
    · simp at e
    · omega
  · have := (hqs q hq1).1; omega
  · have := hqs q hq1; exact ⟨this.2.2.2.2, this.2.2.1, this.2.2.2.1⟩
end Go.Proofs.YtefamhdkfdgdjaaDoor.L15
