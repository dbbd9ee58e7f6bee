/-
  CHAPTER 15: a marker as plain data and in memory; slices.Clone of ints, New, Lay.
-/
import Derived.Test.YtefamhdkfdgdjaaDoorQMark1
set_option linter.unusedVariables false
set_option linter.unusedSimpArgs false
set_option maxRecDepth 100000
namespace Go.Proofs.YtefamhdkfdgdjaaDoor.Mk
open Go.RowKit Go.Proofs.YtefamhdkfdgdjaaDoor.Wd Go.Proofs.YtefamhdkfdgdjaaDoor.Hp Go.Proofs.YtefamhdkfdgdjaaDoor.Sm Go.Proofs.YtefamhdkfdgdjaaDoor.Ato Go.Proofs.YtefamhdkfdgdjaaDoor.Cp Go.Proofs.YtefamhdkfdgdjaaDoor.Cl
theorem infoInt : (Tryd.prog.info? 3).map (fun i => (i.zero, i.size, i.bytes)) = some (some (.int .i64 0), 1, 8) := by kernel_rfl
theorem ints_one (k : IntKind) (ws : List Int) : ∀ u ∈ ints k ws, u.oneCell' = true := by
  intro u hu
  simp only [ints, List.mem_map] at hu
  obtain ⟨v, _, rfl⟩ := hu
  rfl
theorem ints_snoc (k : IntKind) (l : List Int) (x : Int) : ints k (l ++ [x]) = ints k l ++ [.int k x] := by simp [ints]
theorem ints_app (k : IntKind) (l m : List Int) : ints k (l ++ m) = ints k l ++ ints k m := by simp [ints]
theorem take_snoc {α : Type} (l : List α) (j : Nat) (d : α) (h : j < l.length) : l.take (j + 1) = l.take j ++ [l.getD j d] := by
  rw [List.take_succ_eq_append_getElem h]; simp [List.getD, h]
/-- What a maker of one list of ints answers. -/
def MkI (xs : List Int) (w : World) (en : Ending) (w' : World) : Prop :=
  ∃ v qs, en = .returned v ∧ Row w' 3 1 v qs xs.length (ints .i64 xs) ∧ Ch [] w w' ∧ ∀ q ∈ qs, w.heap.size ≤ q ∧ q < w'.heap.size
theorem run_eql_nil {P : Program} (w : World) (t e : TypeId) (a : Option Addr) (l c : Nat) (h : P.underlying t = some (.slice e)) : (binOp .eql t (.slice a l c) (.slice none 0 0)).run P w = .ok (.bool a.isNone) w := by
  cases a with
  | none =>
    have h1 : ∀ d : Nat, (Op.equalIn (d + 1) t (.slice none l c) (.slice none 0 0)).run P w = .ok true w := fun d => by simp [Op.equalIn, run_underlying h]
    simp only [binOp]
    simp [Op.equal, Op.maxDepth, h1 9999]
  | some a =>
    have h1 : ∀ d : Nat, (Op.equalIn (d + 1) t (.slice (some a) l c) (.slice none 0 0)).run P w = .ok false w := fun d => by simp [Op.equalIn, run_underlying h]
    simp only [binOp]
    simp [Op.equal, Op.maxDepth, h1 9999]
theorem CloneI_any (w : World) (aw : Option Addr) (m cw : Nat) (xs : List Int) (hl : xs.length = m) (hm : m ≤ 10000000) (hrw : Rd w aw m (ints .i64 xs)) :
    Calls Tryd.prog 64 #[.slice aw m cw] w (MkI xs w) := by
  have hnil : ∀ (w : World) (a : Option Addr) (l c : Nat), _ := fun w a l c => run_eql_nil (P := Tryd.prog) w 26 _ a l c Tryd.underlying26
  obtain ⟨i0, hi, he⟩ := Option.map_eq_some_iff.1 infoInt
  simp only [Prod.mk.injEq] at he
  obtain ⟨hz0, hz1, hz2⟩ := he
  cases aw with
  | none =>
    obtain rfl : m = 0 := by
      rcases hrw.2 with h | ⟨b, off, h, _⟩
      · exact h
      · cases h
    obtain rfl : xs = [] := List.eq_nil_of_length_eq_zero hl
    clear hrw hl
    have Z : MkI [] w (.returned (.slice none 0 0)) w := ⟨_, [], rfl, Row.nil _ _ _ _, Ch.refl _ _, by simp⟩
    generalize MkI [] w = R at *
    have HZ := Lib.hid Z
    clear Z
    go_enter Tryd.func64, Tryd.ntmps64
    go_wp2_with fail
    exact HZ.out
  | some ad =>
    have C0 : Ch [] w (w.alloc (.cells #[] 3)) := (Ch.refl _ _).alloc _
    have HC0 := Lib.hid C0
    have HRD := Lib.hid (hrw.ch C0)
    have H1 := Lib.hid (ints_one .i64 xs)
    have HR0 := Lib.hid (Row.none (w.alloc (.cells #[] 3)) 3 1 [] (some ⟨w.heap.size, 0, none⟩))
    have HL := Lib.hid hl
    clear hrw C0 hl
    go_enter Tryd.func64, Tryd.ntmps64
    go_wp2_with (at_builtin; go_loud (refine wpList_append_list _ rfl _ _ 26 rfl 3 i0 _ 1 8 Tryd.underlying26 hi hz0 hz1 hz2 rfl (by decide) rfl HR0.out (some ad) m cw rfl (ints .i64 xs) (by have := HRD.out; rwa [Nat.mul_one]) H1.out (by unfold maxLen; omega) (by omega) ?_))
    intro v1 w1 q1 g1 g2 g3
    obtain ⟨a1, c1, rfl, _⟩ := g1.rd
    have G1 := Lib.hid g1
    have G2 := Lib.hid g2
    have G3 := Lib.hid g3
    clear g1 g2 g3
    have Z : Hid (MkI xs w (.returned (.slice a1 m c1)) w1) := Lib.hid (by
      have g1 := G1.out
      refine ⟨_, q1, rfl, by rw [HL.out]; simpa using g1, HC0.out.trans' G2.out, fun q hq => ?_⟩
      have s0 := HC0.out.size
      rcases G3.out with rfl | ⟨q', rfl, h1, h2⟩
      · cases hq
      · simp at hq; subst hq; omega)
    generalize MkI xs w = R at *
    go_wp2_with fail
    exact Z.out
/-- One cell is shaded: the heap, those that became grey. -/
def lay1 (s : List Cel × List Int) (c : Int) : List Cel × List Int := if turnB s.1 c 0 1 then (turn s.1 c 0 1, s.2 ++ [c]) else s
def layS (l : List Cel) (cs : List Int) : List Cel × List Int := cs.foldl lay1 (l, [])
theorem layS_snoc (l : List Cel) (cs : List Int) (c : Int) : layS l (cs ++ [c]) = lay1 (layS l cs) c := by simp [layS, List.foldl_append]
theorem lay1_len (s : List Cel × List Int) (c : Int) : (lay1 s c).2.length ≤ s.2.length + 1 := by unfold lay1; split <;> simp
theorem layS_len (l : List Cel) : ∀ cs : List Int, (layS l cs).2.length ≤ cs.length := by
  intro cs
  suffices ∀ (cs : List Int) (s : List Cel × List Int), (cs.foldl lay1 s).2.length ≤ s.2.length + cs.length by simpa [layS] using this cs (l, [])
  intro cs
  induction cs with
  | nil => intro s; simp
  | cons c cs ih => intro s; have := ih (lay1 s c); have := lay1_len s c; simp only [List.foldl_cons, List.length_cons]; omega
/-- A marker in memory. -/
structure MM (w : World) (mp p s : Nat) (F : List Nat) (l : List Cel) (row : List Int) (rq : List Nat) : Prop where
  hm : ∃ v, w.heap[mp]? = some (.cells #[.pointer (some ⟨p, 0, none⟩), v] 88 (0, 0)) ∧ Row w 3 1 v rq row.length (ints .i64 row)
  is : Cl.Is w p s F l
  mf : mp ∉ F
  mr : mp ∉ rq
  rf : ∀ q ∈ rq, q ∉ F ∧ q < w.heap.size
theorem MM.ch {w w' : World} {mp p s : Nat} {F : List Nat} {l : List Cel} {row : List Int} {rq : List Nat} {T : List Nat} (h : MM w mp p s F l row rq) (hc : Ch T w w') (h1 : mp ∉ T) (h2 : ∀ b ∈ F, b ∉ T) (h3 : ∀ q ∈ rq, q ∉ T) : MM w' mp p s F l row rq := by
  obtain ⟨v, g1, g2⟩ := h.hm
  exact ⟨⟨v, hc.heap g1 h1, g2.ch hc h3⟩, h.is.ch hc h2, h.mf, h.mr, fun q hq => ⟨(h.rf q hq).1, Nat.lt_of_lt_of_le (h.rf q hq).2 hc.size⟩⟩
theorem MM.ch0 {w w' : World} {mp p s : Nat} {F : List Nat} {l : List Cel} {row : List Int} {rq : List Nat} (h : MM w mp p s F l row rq) (hc : Ch [] w w') : MM w' mp p s F l row rq := h.ch hc (by simp) (by simp) (by simp)
/-- The heap has been shaded, or turned: nothing else of the marker has. -/
theorem MM.to {w w' : World} {mp p s : Nat} {F : List Nat} {l l' : List Cel} {row : List Int} {rq : List Nat} (h : MM w mp p s F l row rq) (ht : To w w' p s F l') : ∃ F', MM w' mp p s F' l' row rq ∧ Ch [s] w w' ∧ ∀ b ∈ F', b ∈ F ∨ w.heap.size ≤ b := by
  obtain ⟨F', h1, h2, h3⟩ := ht
  obtain ⟨v, g1, g2⟩ := h.hm
  have hsf := h.is.sf
  refine ⟨F', ⟨⟨v, h2.heap g1 (by simp; intro e; exact h.mf (e ▸ hsf)), g2.ch h2 (fun q hq hm => by simp at hm; exact (h.rf q hq).1 (hm ▸ hsf))⟩, h1, fun hm => ?_, h.mr, fun q hq => ⟨fun hm => ?_, Nat.lt_of_lt_of_le (h.rf q hq).2 h2.size⟩⟩, h2, h3⟩
  · rcases h3 mp hm with h4 | h4
    · exact h.mf h4
    · have := lt_of g1; omega
  · rcases h3 q hm with h4 | h4
    · exact (h.rf q hq).1 h4
    · have := (h.rf q hq).2; omega
/-- What a call of a marker leaves. -/
def MTo (w w' : World) (mp p s : Nat) (F : List Nat) (rq : List Nat) (l' : List Cel) (row' : List Int) : Prop :=
  ∃ F' rq', MM w' mp p s F' l' row' rq' ∧ Ch (mp :: s :: rq) w w' ∧ (∀ b ∈ F', b ∈ F ∨ w.heap.size ≤ b) ∧ ∀ q ∈ rq', q ∈ rq ∨ w.heap.size ≤ q
theorem New_any (w : World) (p s : Nat) (F : List Nat) (l : List Cel) (h : Cl.Is w p s F l) :
    Calls Tryd.prog 8 #[.pointer (some ⟨p, 0, none⟩)] w fun e w' => e = .returned (.pointer (some ⟨w.heap.size, 0, none⟩)) ∧ MM w' w.heap.size p s F l [] [] ∧ Ch [] w w' := by
  have hc : Ch [] w (w.alloc (.cells #[.pointer (some ⟨p, 0, none⟩), .slice none 0 0] 88)) := (Ch.refl _ _).alloc _
  have HM : Hid (MM (w.alloc (.cells #[.pointer (some ⟨p, 0, none⟩), .slice none 0 0] 88)) w.heap.size p s F l [] []) := Lib.hid ⟨⟨_, heap_new w _, Row.nil _ _ _ _⟩, h.ch hc (by simp), fun hm => by have := h.lt _ hm; omega, by simp, by simp⟩
  have HC := Lib.hid hc
  clear h hc
  go_enter Tryd.func8, Tryd.ntmps8
  go_wp2_with fail
  go_ret
  exact ⟨rfl, HM.out, HC.out⟩
end Go.Proofs.YtefamhdkfdgdjaaDoor.Mk
