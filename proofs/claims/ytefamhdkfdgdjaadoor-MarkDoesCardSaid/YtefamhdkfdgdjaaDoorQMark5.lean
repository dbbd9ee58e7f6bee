/-
  CHAPTER 15: the walks of Marker.Scan, Grey.
-/
import Derived.Test.YtefamhdkfdgdjaaDoorQMark4
set_option linter.unusedVariables false
set_option linter.unusedSimpArgs false
set_option maxRecDepth 100000
namespace Go.Proofs.YtefamhdkfdgdjaaDoor.Mk
open Go.RowKit Go.Proofs.YtefamhdkfdgdjaaDoor.Wd Go.Proofs.YtefamhdkfdgdjaaDoor.Hp Go.Proofs.YtefamhdkfdgdjaaDoor.Sm Go.Proofs.YtefamhdkfdgdjaaDoor.Ato Go.Proofs.YtefamhdkfdgdjaaDoor.Cp Go.Proofs.YtefamhdkfdgdjaaDoor.Cl
/-- What lies behind the first of a row. -/
theorem slice_tail {P : Program} (t e : TypeId) (ht : P.underlying t = some (.slice (P.elem t))) (he : P.elem t = e) (i : TypeInfo) (hi : P.info? e = some i) (hs : i.size = 1) (w : World) (ao : Option Addr) (n cap : Nat) (rq : List Nat) (x : Value) (xs : List Value) (hr : Row w e 1 (.slice ao (n + 1) cap) rq (n + 1) (x :: xs)) :
    ∃ so sc, (∀ w : World, (Instr.sliceAt t (.slice ao (n + 1) cap) (some (.int .i64 1)) none none).run P w = .ok (.slice so n sc) w) ∧ (∀ w : World, (Instr.slice t (.slice ao (n + 1) cap) (some (.int .i64 1)) none none).run P w = .ok (.slice so n sc) w) ∧ Row w e 1 (.slice so n sc) rq n xs := by
  obtain ⟨hl, ao', cap', hv, h1, h2, h3, h4⟩ := hr
  simp only [Value.slice.injEq, true_and] at hv
  obtain ⟨rfl, rfl⟩ := hv
  have hrun : ∀ w : World, (Instr.slice t (.slice ao (n + 1) cap) (some (.int .i64 1)) none none).run P w = .ok (.slice (if cap = 1 then ao else ao.map (·.add (1 * 1))) (n + 1 - 1) (cap - 1)) w := fun w => by
    rw [run_slice_any w t ao (n + 1) cap ht]
    have hb : (Instr.sliceBound (.int .i64 1) (n + 1) BoundsCode.sliceB).run P w = .ok 1 w := run_sliceBound w .i64 1 (n + 1) _ (by omega) (by omega)
    simp [Instr.sliceBounds, hb, Result.andThen, sizeOf, typeInfo, he, hi, hs, sliced]
  refine ⟨_, _, fun w => by rw [run_sliceAt_slice w t _ _ _ _ ht]; exact hrun w, hrun, ?_⟩
  simp only [List.length_cons] at hl
  refine ⟨by omega, _, _, rfl, by omega, by omega, fun h => ?_, ?_⟩
  · by_cases hc : cap = 1
    · omega
    · rw [if_neg hc] at h
      cases ao with
      | none => have := h3 rfl; omega
      | some a => cases h
  · rcases h4 with h4 | ⟨q, off, arr, k1, k2, k3, k4, k5⟩
    · omega
    · by_cases hc : cap = 1
      · left; omega
      · right
        refine ⟨q, off + 1, arr, k1, by rw [if_neg hc, k2]; simp [Addr.add], k3, by omega, fun j hj => ?_⟩
        have := k5 (j + 1) (by omega)
        rw [List.getElem?_cons_succ] at this
        rw [← this]
        congr 1; omega
def scanC (l : List Cel) (c : Int) : List Cel × List Int := let r := if loadE l c 0 = 0 ∧ loadE l c 1 = 0 then shS l [loadW l c 0, loadW l c 1] else (l, []); (turn r.1 c 1 2, r.2)
theorem loadW_u {l : List Cel} (hl : ∀ x ∈ l, OkC x) (i f : Int) : 0 ≤ loadW l i f ∧ loadW l i f < 18446744073709551616 := by
  unfold loadW
  have hg : OkC (Cp.get l i) := by
    unfold Cp.get
    split
    · by_cases h : i.toNat < l.length
      · rw [show l.getD i.toNat free = l[i.toNat] by simp [List.getD, h]]; exact hl _ (List.getElem_mem h)
      · rw [show l.getD i.toNat free = free by simp [List.getD, Nat.le_of_not_lt h]]; exact .inl rfl
    · exact .inl rfl
  rcases hg with h | ⟨_, _, _, _, h1, h2, h3, h4⟩
  · rw [h]; split
    · split <;> simp [free]
    · omega
  · split
    · split
      · exact ⟨h1, h2⟩
      · exact ⟨h3, h4⟩
    · omega
/-- What Scan answers of a row that is not empty. -/
def ScanPost (w : World) (mp p s : Nat) (F rq : List Nat) (c : Int) (l' : List Cel) (row' : List Int) (out : List Int) (en : Ending) (w' : World) : Prop :=
  ∃ v qs F' rq', en = .returned (.tuple #[.int .i64 c, v, .bool true]) ∧ Row w' 3 1 v qs out.length (ints .i64 out) ∧ MM w' mp p s F' l' row' rq' ∧ Ch (mp :: s :: rq) w w' ∧ (∀ b ∈ F', b ∈ F ∨ w.heap.size ≤ b) ∧ (∀ q ∈ rq', q ∈ rq ∨ w.heap.size ≤ q) ∧ ∀ q ∈ qs, w.heap.size ≤ q ∧ q < w'.heap.size ∧ q ∉ F' ∧ q ∉ rq' ∧ q ≠ mp
theorem ScanNil_any (w : World) (mp p s : Nat) (F : List Nat) (l : List Cel) (rq : List Nat) (h : MM w mp p s F l [] rq) :
    Calls Tryd.prog 13 #[.pointer (some ⟨mp, 0, none⟩)] w fun e w' => e = .returned (.tuple #[.int .i64 0, .slice none 0 0, .bool false]) ∧ w' = w := by
  obtain ⟨v, g1, g2⟩ := h.hm
  obtain ⟨av, cv, rfl, _⟩ := g2.rd
  have m0 := cell_at (i := 1) g1
  simp only [List.getElem?_toArray, List.getElem?_cons_zero, List.getElem?_cons_succ, List.length_nil] at m0
  clear h g1 g2
  go_enter Tryd.func13, Tryd.ntmps13
  go_wp2_with fail
  go_ret3
  exact ⟨rfl, rfl⟩
set_option maxHeartbeats 4000000 in
theorem Scan_any (w : World) (mp p s : Nat) (F : List Nat) (l : List Cel) (c : Int) (row : List Int) (rq : List Nat) (h : MM w mp p s F l (c :: row) rq) (hn : row.length ≤ 3000000) (hb : Bnd w) (hbT : 0 ∉ mp :: s :: rq) :
    Calls Tryd.prog 13 #[.pointer (some ⟨mp, 0, none⟩)] w (ScanPost w mp p s F rq c (scanC l c).1 (row ++ (scanC l c).2) (scanC l c).2) := by
  obtain ⟨v, g1, g2⟩ := h.hm
  obtain ⟨av, cv, rfl, hcv1, hcv2, hrd⟩ := g2.rd
  obtain ⟨i0, hi, he⟩ := Option.map_eq_some_iff.1 infoInt
  simp only [Prod.mk.injEq] at he
  obtain ⟨hz0, hz1, hz2⟩ := he
  have et : Tryd.prog.elem 26 = 3 := by kernel_rfl
  obtain ⟨so, sc, hsl1, hsl2, htail⟩ := slice_tail (P := Tryd.prog) 26 3 (by rw [et]; exact Tryd.underlying26) et i0 hi hz1 w av row.length cv rq (.int .i64 c) (ints .i64 row) g2
  obtain ⟨b, off, rfl, hj⟩ := hrd.2.resolve_left (by simp)
  have a0 : w.cell? ⟨b, off, none⟩ = some (.int .i64 c) := hj 0 (by simp)
  have m0 := cell_at (i := 0) g1
  have m1 := cell_at (i := 1) g1
  have m1f := free_at (i := 1) g1
  simp only [List.getElem?_toArray, List.getElem?_cons_zero, List.getElem?_cons_succ, List.length_cons] at m0 m1
  have hset := heap_set (i := 1) g1 (.slice so row.length sc)
  obtain ⟨w1, hw1⟩ : ∃ w1, w1 = w.setCell ⟨mp, 1, none⟩ (.slice so row.length sc) := ⟨_, rfl⟩
  have C1 : Ch [mp] w w1 := by rw [hw1]; exact (Ch.refl _ _).setCell _ _ (.inl (by simp))
  have M1 : MM w1 mp p s F l row rq := ⟨⟨.slice so row.length sc, by rw [hw1]; exact hset, htail.ch C1 (fun q hq hm => by simp at hm; exact h.mr (hm ▸ hq))⟩, h.is.ch C1 (fun b hb hm => by simp at hm; exact h.mf (hm ▸ hb)), h.mf, h.mr, fun q hq => ⟨(h.rf q hq).1, Nat.lt_of_lt_of_le (h.rf q hq).2 C1.size⟩⟩
  have HM1 := Lib.hid M1
  have HC1 := Lib.hid C1
  have HOK := Lib.hid h.is.ok
  have HB := Lib.hid hb
  have HBT := Lib.hid hbT
  have KM : Hid (∀ W, Ch [] w1 W → W.cell? ⟨mp, 0, none⟩ = some (.pointer (some ⟨p, 0, none⟩))) := Lib.hid (fun W hW => by
    obtain ⟨v2, k1, k2⟩ := (M1.ch0 hW).hm
    exact cell_at k1)
  have L0 := LoadW_any w1 p s F l c 0 M1.is
  have L1 := Lib.hid (fun W (hW : Ch [] w1 W) => LoadW_any W p s F l c 1 (M1.ch0 hW).is)
  have HMP : Hid (mp < w.heap.size ∧ s < w.heap.size) := Lib.hid ⟨lt_of g1, h.is.lt _ h.is.sf⟩
  have HRQ : Hid (∀ q ∈ rq, q < w.heap.size) := Lib.hid (fun q hq => (h.rf q hq).2)
  have hu := loadW_u h.is.ok c
  have HU := Lib.hid hu
  obtain ⟨R, hR⟩ : ∃ R, R = ScanPost w mp p s F rq c (scanC l c).1 (row ++ (scanC l c).2) (scanC l c).2 := ⟨_, rfl⟩
  have HRR := Lib.hid hR
  rw [← hR]
  have k0 := KM.out w1 (Ch.refl _ _)
  have HSC : Hid (scanC l c = ((turn (if loadE l c 0 = 0 ∧ loadE l c 1 = 0 then shS l [loadW l c 0, loadW l c 1] else (l, [])).1 c 1 2), (if loadE l c 0 = 0 ∧ loadE l c 1 = 0 then shS l [loadW l c 0, loadW l c 1] else (l, [])).2)) := Lib.hid rfl
  clear g1 g2 hrd htail hj hset C1 M1 h hb hbT hR hu et
  generalize hnr : row.length = nr at *
  have HNR := Lib.hid hnr
  clear hnr
  go_enter Tryd.func13, Tryd.ntmps13
  go_wp2_with fail
  rw [← hw1]
  clear hsl1 hsl2 hw1 m0 m1 m1f a0
  refine L0.mono ?_
  rintro e w2 ⟨rfl, c2⟩
  have C2 := Lib.hid c2
  have LL := L1.out w2 c2
  have k1 := KM.out w2 c2
  clear L0 c2 k0 L1
  go_wp2_with fail
  refine LL.mono ?_
  rintro e w3 ⟨rfl, c3⟩
  have C3 := Lib.hid (C2.out.trans' c3)
  have k2 := KM.out w3 C3.out
  clear LL c3 k1
  by_cases hok : loadE l c 0 = 0 ∧ loadE l c 1 = 0
  · have HS : Hid (scanC l c = (turn (shS l [loadW l c 0, loadW l c 1]).1 c 1 2, (shS l [loadW l c 0, loadW l c 1]).2)) := Lib.hid (by rw [HSC.out, if_pos hok])
    rw [hok.1, hok.2]
    clear hok
    have CA := Lib.hid ((Ch.refl [] w3).alloc (.cells #[.int .u64 (loadW l c 0), .int .u64 (loadW l c 1)] 29))
    have SH := Mk.Shade_any (w3.alloc (.cells #[.int .u64 (loadW l c 0), .int .u64 (loadW l c 1)] 29)) mp p s F l row rq (some ⟨w3.heap.size, 0, none⟩) 2 2 [loadW l c 0, loadW l c 1] ((HM1.out.ch0 C3.out).ch0 CA.out) ⟨rfl, .inr ⟨w3.heap.size, 0, rfl, (by
        have s1 := HC1.out.size
        have s3 := C3.out.size
        have := HMP.out
        intro hm
        simp only [List.mem_cons] at hm
        rcases hm with h1 | h1 | h1
        · omega
        · omega
        · have := HRQ.out _ h1; omega), fun j hj => by
        rw [cell_at (heap_new w3 _)]; simp [ints]⟩⟩ (by rw [HNR.out]; omega) (by intro x hx; simp at hx; rcases hx with rfl | rfl; exact HU.out 0; exact HU.out 1) (Mk.Bnd.ch HB.out (((HC1.out.mono (by simp)).trans0 C3.out).trans0 CA.out) HBT.out) HBT.out
    generalize loadW l c 0 = wa at *
    generalize loadW l c 1 = wb at *
    generalize shS l [wa, wb] = st at *
    obtain ⟨l2, out⟩ := st
    simp only at SH HS
    unfold LayPost at SH
    go_wp2_with fail
    refine SH.mono ?_
    rintro e w5 ⟨v5, q5, F5, r5, rfl, b1, b2, b3, b4, b5, b6⟩
    obtain ⟨a5, c5, rfl, _⟩ := b1.rd
    have B1 := Lib.hid b1
    have B2 := Lib.hid b2
    have B3 := Lib.hid b3
    have B4 := Lib.hid b4
    have B5 := Lib.hid b5
    have B6 := Lib.hid b6
    obtain ⟨v6, k6, _⟩ := b2.hm
    have k7 := cell_at (i := 0) k6
    simp only [List.getElem?_toArray, List.getElem?_cons_zero] at k7
    have TN := Turn_any w5 p s F5 l2 c 1 2 b2.is (by omega)
    generalize turnB l2 c 1 2 = tb at *
    generalize hoL : out.length = no at *
    have HOL := Lib.hid hoL
    clear SH b1 b2 b3 b4 b5 b6 k6 k2 hoL
    go_wp2_with fail
    refine TN.mono ?_
    rintro e w6 ⟨rfl, ht⟩
    obtain ⟨F6, t1, t2, t3⟩ := B2.out.to ht
    have Z : Hid (ScanPost w mp p s F rq c (scanC l c).1 (row ++ (scanC l c).2) (scanC l c).2 (.returned (.tuple #[.int .i64 c, .slice a5 no c5, .bool true])) w6) := Lib.hid (by
      have s1 := HC1.out.size
      have s3 := C3.out.size
      have s4 := CA.out.size
      have s5 := B3.out.size
      have s6 := t2.size
      rw [HS.out]
      simp only
      have hs5 := B2.out.is.sf
      refine ⟨_, q5, F6, r5, rfl, by rw [HOL.out]; exact B1.out.ch t2 (fun q hq hm => by simp at hm; subst hm; exact (B6.out q hq).2.2.1 hs5), t1, ((((HC1.out.mono (by simp)).trans0 C3.out).trans0 CA.out).trans' B3.out).trans t2 (fun q hq => .inl (by simp at hq; subst hq; simp)), fun b hb => ?_, fun q hq => ?_, fun q hq => ?_⟩
      · rcases t3 b hb with h1 | h1
        · rcases B4.out b h1 with h2 | h2
          · exact .inl h2
          · right; omega
        · right; omega
      · rcases B5.out q hq with h1 | h1
        · exact .inl h1
        · right; omega
      · obtain ⟨z1, z2, z3, z4, z5⟩ := B6.out q hq
        refine ⟨by omega, by omega, fun hm => ?_, z4, z5⟩
        rcases t3 q hm with h1 | h1
        · exact z3 h1
        · omega)
    clear TN ht t1 t2 t3 k7
    go_wp2_with fail
    go_ret3
    rw [HRR.out]
    exact Z.out
  · have HS : Hid (scanC l c = (turn l c 1 2, [])) := Lib.hid (by rw [HSC.out, if_neg hok])
    have TN := Turn_any w3 p s F l c 1 2 (HM1.out.ch0 C3.out).is (by omega)
    generalize turnB l c 1 2 = tb at *
    have hfin : ∀ w6, To w3 w6 p s F (turn l c 1 2) → ScanPost w mp p s F rq c (scanC l c).1 (row ++ (scanC l c).2) (scanC l c).2 (.returned (.tuple #[.int .i64 c, .slice none 0 0, .bool true])) w6 := fun w6 ht => by
      obtain ⟨F6, t1, t2, t3⟩ := (HM1.out.ch0 C3.out).to ht
      have s1 := HC1.out.size
      have s3 := C3.out.size
      rw [HS.out]
      simp only
      exact ⟨_, [], F6, rq, rfl, Row.nil _ _ _ _, by simpa using t1, ((HC1.out.mono (by simp)).trans0 C3.out).trans t2 (fun q hq => .inl (by simp at hq; subst hq; simp)), fun b hb => (t3 b hb).imp id (fun h => by omega), fun q hq => .inl hq, by simp⟩
    have HFIN := Lib.hid hfin
    have hcase : (loadE l c 0 ≠ 0) ∨ (loadE l c 0 = 0 ∧ loadE l c 1 ≠ 0) := by
      by_cases h0 : loadE l c 0 = 0
      · exact .inr ⟨h0, fun h1 => hok ⟨h0, h1⟩⟩
      · exact .inl h0
    clear hok hfin HS HSC
    generalize loadW l c 0 = wa at *
    generalize loadW l c 1 = wb at *
    generalize loadE l c 0 = e0 at *
    generalize loadE l c 1 = e1 at *
    rcases hcase with h0 | ⟨rfl, h0⟩
    · have h0' : (e0 == 0) = false := by simpa using h0
      clear h0
      go_wp2_with fail
      refine TN.mono ?_
      rintro e w6 ⟨rfl, ht⟩
      have Z := HFIN.out w6 ht
      clear TN ht
      go_wp2_with fail
      go_ret3
      rw [HRR.out]
      exact Z
    · have h0' : (e1 == 0) = false := by simpa using h0
      clear h0
      go_wp2_with fail
      refine TN.mono ?_
      rintro e w6 ⟨rfl, ht⟩
      have Z := HFIN.out w6 ht
      clear TN ht
      go_wp2_with fail
      go_ret3
      rw [HRR.out]
      exact Z
theorem Grey_any (w : World) (mp p s : Nat) (F : List Nat) (l : List Cel) (row : List Int) (rq : List Nat) (h : MM w mp p s F l row rq) (hn : row.length ≤ 5000000) :
    Calls Tryd.prog 36 #[.pointer (some ⟨mp, 0, none⟩)] w (MkI row w) := by
  obtain ⟨v, g1, g2⟩ := h.hm
  obtain ⟨av, cv, rfl, _, _, hrd⟩ := g2.rd
  rw [Nat.mul_one] at hrd
  have m0 := cell_at (i := 1) g1
  simp only [List.getElem?_toArray, List.getElem?_cons_zero, List.getElem?_cons_succ] at m0
  have CLN := CloneI_any w av row.length cv row rfl (by omega) hrd
  have HRE : Hid (∀ e w', MkI row w e w' → MkI row w e w') := Lib.hid (fun _ _ h => h)
  unfold MkI at CLN
  clear h g1 g2 hrd
  generalize hnr : row.length = nr at *
  have HNR := Lib.hid hnr
  clear hnr
  go_enter Tryd.func36, Tryd.ntmps36
  go_wp2_with fail
  refine CLN.mono ?_
  rintro e w2 ⟨v2, q2, rfl, b1, b2, b3⟩
  have Z : Hid (MkI row w (.returned v2) w2) := Lib.hid ⟨v2, q2, rfl, by rw [HNR.out]; exact b1, b2, b3⟩
  obtain ⟨a2, c2, rfl, _⟩ := b1.rd
  generalize MkI row w = R at *
  clear CLN b1 b2 b3
  go_wp2_with fail
  exact Z.out
end Go.Proofs.YtefamhdkfdgdjaaDoor.Mk
