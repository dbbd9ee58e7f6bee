/-
  PLAIN LAWS AND STATES for BarrierEnds: a view in which nothing is left to look into.
-/
import Derived.Test.YtlhhcocdhkbdnaaDoorQViews
import Derived.Test.YtlhhcocdhkbdnaaDoorQView13
import Derived.Test.YtlhhcocdhkbdnaaDoorQLaw13n
import Derived.Test.YtlhhcocdhkbdnaaDoorQJRef10b
import Derived.Test.YtlhhcocdhkbdnaaDoorQJApp
set_option linter.unusedVariables false
set_option linter.unusedSimpArgs false
set_option maxRecDepth 100000
namespace Go.Proofs.YtlhhcocdhkbdnaaDoor.L13
open Go.RowKit Go.Proofs.YtlhhcocdhkbdnaaDoor.Wd Go.Proofs.YtlhhcocdhkbdnaaDoor.Hp Go.Proofs.YtlhhcocdhkbdnaaDoor.Gp Go.Proofs.YtlhhcocdhkbdnaaDoor.Sm Go.Proofs.YtlhhcocdhkbdnaaDoor.Gr Go.Proofs.YtlhhcocdhkbdnaaDoor.Bp Go.Proofs.YtlhhcocdhkbdnaaDoor.OV
def gb (x : Cel) : Cel := if x.c = 1 then ⟨x.k, 2, x.a, x.b⟩ else x
def sct (l : Ln) : Ln := ⟨l.roots, true, l.en⟩
def endV (v : Vw) : Vw := ⟨v.cells.map gb, v.ph, v.sw, [], v.globals, v.globals.length, v.lanes.map sct⟩
theorem gb_in {x : Cel} (h : InR x) : InR (gb x) := by
  unfold gb
  split
  · exact ⟨h.1, h.2.1, by simp, by simp, h.2.2.2.2.1, h.2.2.2.2.2⟩
  · exact h
theorem rootsN_sct (l : List Ln) : rootsN (l.map sct) = rootsN l := by
  unfold rootsN
  rw [List.map_map]
  rfl
theorem VR.ends {v : Vw} (h : VR v) : VR (endV v) :=
  ⟨fun x hx => by
    obtain ⟨y, hy, rfl⟩ := List.mem_map.1 hx
    exact gb_in (h.cells y hy), h.ph, h.sw, by have := h.n3; unfold endV; simp only; omega, (fun x hx => by cases hx), h.globals, fun l hl x hx => by
    obtain ⟨y, hy, rfl⟩ := List.mem_map.1 hl
    exact h.roots y hy x hx, by simpa [endV] using h.n1, by simp [endV], h.n3, by simpa [endV] using h.n4, by unfold endV; simp only [rootsN_sct]; exact h.n5⟩
theorem ends_src (v : Vw) (cnt : Ln → Bool) : srcL (endV v) cnt = [] := by
  unfold srcL src2 src1 endV
  simp only [List.length_nil, List.take_zero, List.flatMap_nil, List.append_nil, Int.toNat_natCast, List.drop_length, List.nil_append]
  rw [List.flatMap_eq_nil_iff]
  intro l hl
  have := List.mem_of_mem_take hl
  obtain ⟨y, hy, rfl⟩ := List.mem_map.1 this
  simp [lr, sct]
theorem walk_nil (h : List Cel) (cnt : Cel → Bool) (c : Nat) (hc : c < h.length) : (walkF h cnt []).getD c true = false := by
  rw [Bool.eq_false_iff]
  intro ht
  rw [walkF_iff h cnt [] c hc] at ht
  have : ∀ c, ¬ Rch h cnt [] c := by
    intro c hr
    induction hr with
    | src x hx => cases hx
    | step d x _ _ _ _ _ ih => exact ih
  exact this c ht
theorem ends_by (v : Vw) (c : Nat) (hc : c < (endV v).cells.length) : (byL (endV v)).getD c true = false := by
  unfold byL; rw [ends_src]; exact walk_nil _ _ c hc
theorem ends_well (v : Vw) (c : Nat) (hc : c < (endV v).cells.length) : (wellL (endV v)).getD c true = false := by
  unfold wellL; rw [ends_src]; exact walk_nil _ _ c hc
/-- Where it holds, no white cell is reached. -/
theorem ends_ok {v : Vw} (hk : VOk (endV v)) (hf : holdsF (endV v) = none) (i : Nat) (hi : i < (endV v).cells.length) (hw : whiteC ((endV v).cells.getD i z) = true) : (order (endV v).cells (rootsL (endV v))).1.getD i true = false := by
  unfold holdsF at hf
  rw [List.find?_eq_none] at hf
  have h1 := hf i (List.mem_range.2 hi)
  rw [← badR_eq hk i hi] at h1
  unfold badR at h1
  rw [hw, ends_by v i hi, ends_well v i hi] at h1
  simp only [Bool.true_and, Bool.not_false, Bool.and_true, Bool.or_eq_true, not_or, Bool.not_eq_true] at h1
  exact h1.1
theorem ends_bad {v : Vw} (i : Nat) (hf : holdsF (endV v) = some i) : i < (endV v).cells.length ∧ whiteC ((endV v).cells.getD i z) = true := by
  unfold holdsF at hf
  have h1 := List.find?_some hf
  have h2 := List.mem_of_find?_eq_some hf
  unfold badH at h1
  simp only [Bool.and_eq_true] at h1
  exact ⟨List.mem_range.1 h2, h1.1⟩
/-- The owner's cells, the first j of them no longer grey. -/
structure GbS (h : List Cel) (off j : Nat) (arr : Array Value) : Prop where
  get : ∀ i t, i < h.length → t < 4 → arr[off + (i * 4 + t)]? = (celV (if i < j then gb (h.getD i z) else h.getD i z))[t]?
theorem GbS.start {h : List Cel} {off : Nat} {arr : Array Value} (hh : ∀ j, j < h.length * 4 → arr[off + j]? = (flat h)[j]?) : GbS h off 0 arr := ⟨fun i t hi ht => by
  rw [hh (i * 4 + t) (by omega), flat_get h i t hi ht, if_neg (by omega)]⟩
theorem GbS.skip {h : List Cel} {off j : Nat} {arr : Array Value} (k : GbS h off j arr) (hi : j < h.length) (hc : (h.getD j z).c ≠ 1) : GbS h off (j + 1) arr := ⟨fun m t hm ht => by
  rw [k.get m t hm ht]
  by_cases e : m = j
  · subst e
    rw [if_neg (by omega), if_pos (by omega)]
    unfold gb; rw [if_neg hc]
  · by_cases e3 : m < j
    · rw [if_pos e3, if_pos (by omega)]
    · rw [if_neg e3, if_neg (by omega)]⟩
theorem GbS.next {h : List Cel} {off j : Nat} {arr : Array Value} (k : GbS h off j arr) (hi : j < h.length) (hc : (h.getD j z).c = 1) : GbS h off (j + 1) (arr.setIfInBounds (off + j * 4 + 1) (.int .u8 2)) := ⟨fun m t hm ht => by
  have hs3 : off + (j * 4 + 1) < arr.size := by
    have := k.get j 1 hi (by omega)
    rw [show (celV (if j < j then gb (h.getD j z) else h.getD j z))[1]? = some (.int .u8 (h.getD j z).c) by rw [if_neg (by omega)]; rfl] at this
    exact (Array.getElem?_eq_some_iff.1 this).1
  rw [Array.getElem?_setIfInBounds]
  by_cases e : m = j
  · subst e
    have hgb : gb (h.getD m z) = ⟨(h.getD m z).k, 2, (h.getD m z).a, (h.getD m z).b⟩ := by unfold gb; rw [if_pos hc]
    rcases (show t = 0 ∨ t = 1 ∨ t = 2 ∨ t = 3 by omega) with rfl | rfl | rfl | rfl
    · rw [if_neg (by omega), k.get m 0 hm (by omega), if_neg (by omega), if_pos (by omega), hgb]; rfl
    · rw [if_pos (by omega), if_pos (by omega), if_pos (by omega), hgb]; rfl
    · rw [if_neg (by omega), k.get m 2 hm (by omega), if_neg (by omega), if_pos (by omega), hgb]; rfl
    · rw [if_neg (by omega), k.get m 3 hm (by omega), if_neg (by omega), if_pos (by omega), hgb]; rfl
  · rw [if_neg (by omega), k.get m t hm ht]
    by_cases e3 : m < j
    · rw [if_pos e3, if_pos (by omega)]
    · rw [if_neg e3, if_neg (by omega)]⟩
theorem GbS.rd {h : List Cel} {off : Nat} {arr : Array Value} {w : World} {q : Nat} (k : GbS h off h.length arr) (hh : w.heap[q]? = some (.cells arr 58 (0, 0))) : RdF w (some ⟨q, off, none⟩) ((h.map gb).length * 4) (flat (h.map gb)) [] :=
  ⟨flat_len _, .inr ⟨q, off, rfl, by simp, fun m hm => by
    rw [List.length_map] at hm
    have e : m = m / 4 * 4 + m % 4 := by omega
    have h4 : m % 4 < 4 := Nat.mod_lt _ (by omega)
    have hl : m / 4 < h.length := by omega
    have hf := flat_get (h.map gb) (m / 4) (m % 4) (by simpa using hl) h4
    have hg := k.get (m / 4) (m % 4) hl h4
    rw [← e] at hf hg
    rw [cell_at hh, hg, hf, if_pos hl]
    rw [show (h.map gb).getD (m / 4) z = gb (h.getD (m / 4) z) by simp [List.getD, hl]]⟩⟩
/-- Lanes that are all scanned, and all roots. -/
def lsE (v : Vw) (a : VA) (j : Nat) : List Value := [.slice (a.la j) (v.lanes.getD j ln0).roots.length (a.lc j), .bool true, .bool (v.lanes.getD j ln0).en]
structure EL (W w : World) (v : Vw) (a : VA) (j : Nat) (lv : Value) (lq : List Nat) (rv : Value) (rq : List Nat) : Prop where
  row : Row w 71 3 lv lq j ((List.range j).flatMap (lsE v a))
  rts : Row w 24 1 rv rq (rt v j).length (ints .u64 (rt v j))
  lf : ∀ q ∈ lq, W.heap.size ≤ q ∧ q < w.heap.size
  rf : ∀ q ∈ rq, W.heap.size ≤ q ∧ q < w.heap.size
  d : ∀ q ∈ lq, q ∉ rq
  ch : Ch [] W w
theorem EL.chg {W w w' : World} {v : Vw} {a : VA} {j : Nat} {lv rv : Value} {lq rq : List Nat} (h : EL W w v a j lv lq rv rq) (hc : Ch [] w w') : EL W w' v a j lv lq rv rq :=
  ⟨h.row.ch hc (by simp), h.rts.ch hc (by simp), fun q hq => ⟨(h.lf q hq).1, Nat.lt_of_lt_of_le (h.lf q hq).2 hc.size⟩, fun q hq => ⟨(h.rf q hq).1, Nat.lt_of_lt_of_le (h.rf q hq).2 hc.size⟩, h.d, h.ch.trans' hc⟩
/-- One more lane, and its roots. -/
theorem EL.push {W w w1 w2 : World} {v : Vw} {a : VA} {j : Nat} {lv rv lv' rv' : Value} {lq rq lq' rq' : List Nat} (h : EL W w v a j lv lq rv rq) (hj : j < v.lanes.length)
    (hr : Row w1 71 3 lv' lq' (j + 1) ((List.range j).flatMap (lsE v a) ++ lsE v a j)) (hc : Ch lq w w1) (hq : lq' = lq ∨ ∃ q', lq' = [q'] ∧ w.heap.size ≤ q' ∧ q' < w1.heap.size)
    (hr2 : Row w2 24 1 rv' rq' ((rt v j).length + (v.lanes.getD j ln0).roots.length) (ints .u64 (rt v j) ++ ints .u64 (v.lanes.getD j ln0).roots)) (hc2 : Ch rq w1 w2) (hq2 : rq' = rq ∨ ∃ q', rq' = [q'] ∧ w1.heap.size ≤ q' ∧ q' < w2.heap.size) : EL W w2 v a (j + 1) lv' lq' rv' rq' := by
  have s0 := h.ch.size
  have s1 := hc.size
  have s2 := hc2.size
  have hl : ∀ q ∈ lq', W.heap.size ≤ q ∧ q < w1.heap.size ∧ q ∉ rq := fun q hm => by
    rcases hq with rfl | ⟨q', rfl, g1, g2⟩
    · have := h.lf q hm; exact ⟨this.1, by omega, h.d q hm⟩
    · simp at hm; subst hm
      exact ⟨by omega, g2, fun hr => by have := (h.rf _ hr).2; omega⟩
  refine ⟨?_, ?_, fun q hm => ⟨(hl q hm).1, by have := (hl q hm).2.1; omega⟩, fun q hm => ?_, fun q hm hr' => ?_, (h.ch.trans hc (fun x hx => .inr (h.lf x hx).1)).trans hc2 (fun x hx => .inr (h.rf x hx).1)⟩
  · rw [List.range_succ, List.flatMap_append]
    simpa using hr.ch hc2 (fun q hm => (hl q hm).2.2)
  · rw [rt_next v j hj, List.length_append, show ints .u64 (rt v j ++ (v.lanes.getD j ln0).roots) = ints .u64 (rt v j) ++ ints .u64 (v.lanes.getD j ln0).roots by simp [ints]]
    exact hr2
  · rcases hq2 with rfl | ⟨q', rfl, g1, g2⟩
    · have := h.rf q hm; exact ⟨this.1, by omega⟩
    · simp at hm; subst hm; exact ⟨by omega, g2⟩
  · rcases hq2 with rfl | ⟨q', rfl, g1, g2⟩
    · exact (hl q hm).2.2 hr'
    · simp at hr'; subst hr'
      have := (hl _ hm).2.1; omega
theorem rt_ends (v : Vw) : rootsL (endV v) = rt v v.lanes.length := by
  unfold rootsL rt endV
  simp only [List.length_map, List.take_length]
  rw [← List.map_take, List.take_length, List.flatMap_map]
  rfl
/-- Where the lists of the view lie then. -/
def ena (a : VA) (ah : Option Addr) (ch : Nat) (al : Option Addr) (cl : Nat) : VA := ⟨ah, ch, none, 0, a.agl, a.cgl, al, cl, a.la, a.lc⟩
theorem vm_ends {w : World} {a : VA} {v : Vw} {ah al : Option Addr} {ch cl : Nat} (hv : VM w a v) (hcs : RdF w ah ((v.cells.map gb).length * 4) (flat (v.cells.map gb)) []) (hls : Hp.Rd w al (v.lanes.length * 3) ((List.range v.lanes.length).flatMap (lsE v a))) : VM w (ena a ah ch al cl) (endV v) := by
  have hll : (endV v).lanes.length = v.lanes.length := by simp [endV]
  have hgd : ∀ j, j < v.lanes.length → (endV v).lanes.getD j ln0 = sct (v.lanes.getD j ln0) := fun j hj => map_getD sct v.lanes ln0 ln0 j hj
  refine ⟨hcs, ⟨rfl, .inl rfl⟩, hv.globals, ⟨lanesV_len _ _, ?_⟩, fun j hj => ?_, hv.capg⟩
  · rw [hll]
    rcases hls.2 with h0 | ⟨b, off, rfl, hf⟩
    · exact .inl h0
    · right
      refine ⟨b, off, rfl, by simp, fun j hj => ?_⟩
      have e : j = j / 3 * 3 + j % 3 := by omega
      have h3 : j % 3 < 3 := Nat.mod_lt _ (by omega)
      have hjl : j / 3 < v.lanes.length := by omega
      have hg := lanesV_get (ena a ah ch (some ⟨b, off, none⟩) cl) (endV v) (j / 3) (j % 3) (by omega) h3
      have hq := range_flat_get (lsE v a) (fun _ => rfl) (j / 3) (j % 3) h3 _ hjl
      rw [← e] at hg hq
      rw [hf j hj, hq, hg]
      unfold laneV lsE ena
      simp only [hgd _ hjl, sct]
  · rw [hll] at hj
    rw [hgd j hj]
    exact hv.roots j hj
end Go.Proofs.YtlhhcocdhkbdnaaDoor.L13
