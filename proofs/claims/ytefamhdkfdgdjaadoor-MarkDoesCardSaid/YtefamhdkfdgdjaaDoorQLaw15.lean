/-
  THE LAWS of chapter 15: their example; MarkNumbers.
-/
import Derived.Test.YtefamhdkfdgdjaaDoorQMark5
import Derived.Deep.RegionWith
set_option linter.unusedVariables false
set_option linter.unusedSimpArgs false
set_option maxRecDepth 100000
namespace Go.Proofs.YtefamhdkfdgdjaaDoor.L15
open Go.RowKit Go.Proofs.YtefamhdkfdgdjaaDoor.Wd Go.Proofs.YtefamhdkfdgdjaaDoor.Hp Go.Proofs.YtefamhdkfdgdjaaDoor.Sm Go.Proofs.YtefamhdkfdgdjaaDoor.Ato Go.Proofs.YtefamhdkfdgdjaaDoor.Cp Go.Proofs.YtefamhdkfdgdjaaDoor.Cl Go.Proofs.YtefamhdkfdgdjaaDoor.Mk
def L3 : List Cel := [⟨1, 0, 24, 40⟩, ⟨2, 0, 85, 1⟩, ⟨1, 0, 8, 40⟩, free, free]
def L4 : List Cel := [⟨1, 1, 24, 40⟩, ⟨2, 0, 85, 1⟩, ⟨1, 0, 8, 40⟩, free, free]
def L5 : List Cel := [⟨1, 2, 24, 40⟩, ⟨2, 1, 85, 1⟩, ⟨1, 1, 8, 40⟩, free, free]
def L6 : List Cel := [⟨1, 2, 24, 40⟩, ⟨2, 2, 85, 1⟩, ⟨1, 1, 8, 40⟩, free, free]
theorem ex_3 : make (make (make (List.replicate 5 free) 0 1 0 24 40) 1 2 0 85 1) 2 1 0 8 40 = L3 := by kernel_rfl
theorem ex_4 : shS L3 [8, 85, 8, 72, 152] = (L4, [0]) := by kernel_rfl
theorem ex_5 : scanC L4 0 = (L5, [1, 2]) := by kernel_rfl
theorem ex_6 : scanC L5 1 = (L6, []) := by kernel_rfl
theorem ex_7 : headC L6 0 = 2 := by kernel_rfl
theorem ex_r : refW 0 = 8 ∧ refW 1 = 24 ∧ refW 2 = 40 ∧ refW 4 = 72 ∧ refW 9 = 152 ∧ mkW 5 5 = 85 ∧ mkW 1 0 = 1 := by decide
/-- A row of nobody's block but its own survives what a marker does. -/
theorem keep_row {w w' : World} {mp s : Nat} {rq qs : List Nat} {n : Nat} {xs : List Value} {v : Value} (h : Row w 3 1 v qs n xs) (hc : Ch (mp :: s :: rq) w w') (hq : ∀ q ∈ qs, q ≠ mp ∧ q ≠ s ∧ q ∉ rq) : Row w' 3 1 v qs n xs :=
  h.ch hc (fun q hm hx => by
    have := hq q hm
    simp only [List.mem_cons] at hx
    rcases hx with h1 | h1 | h1
    · exact this.1 h1
    · exact this.2.1 h1
    · exact this.2.2 h1)
set_option maxHeartbeats 4000000 in
theorem works_any (w : World) (hb : Bnd w) : Calls Tryd.prog 6 #[] w fun e w' => e = .returned (.bool true) ∧ Ch [] w w' := by
  obtain ⟨r0, r1, r2, r4, r9, k5, k1⟩ := ex_r
  have N := New_any w 5 (by omega) (by omega)
  have hI := fun w (h : Bnd w) => Wd.Int_any w 5 h
  have hM := fun w (h : Bnd w) => Wd.Make_any w 1 0 h
  have hR0 := fun w (h : Bnd w) => Wd.Ref_any w 0 (by omega) (by omega) h
  have hR1 := fun w (h : Bnd w) => Wd.Ref_any w 1 (by omega) (by omega) h
  have hR2 := fun w (h : Bnd w) => Wd.Ref_any w 2 (by omega) (by omega) h
  have hR4 := fun w (h : Bnd w) => Wd.Ref_any w 4 (by omega) (by omega) h
  have hR9 := fun w (h : Bnd w) => Wd.Ref_any w 9 (by omega) (by omega) h
  rw [k5] at hI
  rw [k1] at hM
  rw [r0] at hR0
  rw [r1] at hR1
  rw [r2] at hR2
  rw [r4] at hR4
  rw [r9] at hR9
  have I5 := Lib.hid hI
  have M1 := Lib.hid hM
  have R0 := Lib.hid hR0
  have R1 := Lib.hid hR1
  have R2 := Lib.hid hR2
  have R4 := Lib.hid hR4
  have R9 := Lib.hid hR9
  have HBL := Lib.hid hb.block
  have HB : Hid (∀ w' T, Ch T w w' → (∀ x ∈ T, w.heap.size ≤ x) → Bnd w') := Lib.hid (fun w' T hc hT => Mk.Bnd.ch hb hc (fun hm => by have := hT _ hm; have := HBL.out; omega))
  clear r0 r1 r2 r4 r9 k5 k1 hb hI hM hR0 hR1 hR2 hR4 hR9
  go_enter Tryd.func6, Tryd.ntmps6
  go_wp2_with fail
  refine N.mono ?_
  rintro e w1 ⟨p, s, F, rfl, i1, c1, f1⟩
  have B1 := HB.out w1 [] c1 (by simp)
  have HI := Lib.hid i1
  have C1 := Lib.hid c1
  have HF := Lib.hid f1
  clear N i1 c1 f1
  go_wp2_with fail
  refine (I5.out w1 B1).mono ?_
  rintro e w2 ⟨rfl, rfl⟩
  go_wp2_with fail
  refine (M1.out w2 B1).mono ?_
  rintro e w3 ⟨rfl, rfl⟩
  go_wp2_with fail
  refine (R1.out w3 B1).mono ?_
  rintro e w4 ⟨rfl, rfl⟩
  go_wp2_with fail
  refine (R2.out w4 B1).mono ?_
  rintro e w5 ⟨rfl, rfl⟩
  go_wp2_with fail
  refine (Make_any w5 p s F _ 0 1 0 24 40 HI.out (by omega) (by omega)).mono ?_
  rintro e w6 ⟨rfl, F6, i6, c6, f6⟩
  have C6 : Hid (Ch [] w w6) := Lib.hid (C1.out.trans c6 (fun x hx => .inr (by simp at hx; subst hx; exact HF.out _ HI.out.sf)))
  have HF6 : Hid (∀ x ∈ F6, w.heap.size ≤ x) := Lib.hid (fun x hx => (f6 x hx).elim (HF.out x) (fun h => by have := C1.out.size; omega))
  have HI6 := Lib.hid i6
  have B6 := HB.out w6 [] C6.out (by simp)
  clear HI HF B1 i6 c6 f6 C1
  go_wp2_with fail
  refine (Make_any w6 p s F6 _ 1 2 0 85 1 HI6.out (by omega) (by omega)).mono ?_
  rintro e w7 ⟨rfl, F7, i7, c7, f7⟩
  have C7 : Hid (Ch [] w w7) := Lib.hid (C6.out.trans c7 (fun x hx => .inr (by simp at hx; subst hx; exact HF6.out _ HI6.out.sf)))
  have HF7 : Hid (∀ x ∈ F7, w.heap.size ≤ x) := Lib.hid (fun x hx => (f7 x hx).elim (HF6.out x) (fun h => by have := C6.out.size; omega))
  have HI7 := Lib.hid i7
  have B7 := HB.out w7 [] C7.out (by simp)
  clear HI6 HF6 B6 i7 c7 f7 C6
  go_wp2_with fail
  refine (R0.out w7 B7).mono ?_
  rintro e w8 ⟨rfl, rfl⟩
  go_wp2_with fail
  refine (R2.out w8 B7).mono ?_
  rintro e w8 ⟨rfl, rfl⟩
  go_wp2_with fail
  refine (Make_any w8 p s F7 _ 2 1 0 8 40 HI7.out (by omega) (by omega)).mono ?_
  rintro e w9 ⟨rfl, F9, i9, c9, f9⟩
  rw [ex_3] at i9
  have C9 : Hid (Ch [] w w9) := Lib.hid (C7.out.trans c9 (fun x hx => .inr (by simp at hx; subst hx; exact HF7.out _ HI7.out.sf)))
  have HF9 : Hid (∀ x ∈ F9, w.heap.size ≤ x) := Lib.hid (fun x hx => (f9 x hx).elim (HF7.out x) (fun h => by have := C7.out.size; omega))
  have HI9 := Lib.hid i9
  clear HI7 HF7 B7 i9 c9 f9 C7
  go_wp2_with fail
  refine (Mk.New_any w9 p s F9 _ HI9.out).mono ?_
  rintro e w10 ⟨rfl, m10, c10⟩
  have HMP : Hid (w.heap.size ≤ w9.heap.size) := Lib.hid C9.out.size
  generalize w9.heap.size = mp at *
  have C10 := Lib.hid (C9.out.trans' c10)
  have HM10 := Lib.hid m10
  have B10 := HB.out w10 [] C10.out (by simp)
  clear HI9 m10 c10 C9
  go_wp2_with fail
  refine (R0.out w10 B10).mono ?_
  rintro e w11 ⟨rfl, rfl⟩
  go_wp2_with fail
  refine (R0.out w11 B10).mono ?_
  rintro e w11 ⟨rfl, rfl⟩
  go_wp2_with fail
  refine (R4.out w11 B10).mono ?_
  rintro e w11 ⟨rfl, rfl⟩
  go_wp2_with fail
  refine (R9.out w11 B10).mono ?_
  rintro e w11 ⟨rfl, rfl⟩
  have CA : Ch [] w11 (w11.alloc (.cells #[.int .u64 8, .int .u64 85, .int .u64 8, .int .u64 72, .int .u64 152] 29)) := (Ch.refl _ _).alloc _
  have HSF : Hid (w.heap.size ≤ s) := Lib.hid (HF9.out _ HM10.out.is.sf)
  have hmplt : mp < w11.heap.size ∧ s < w11.heap.size := ⟨by obtain ⟨v, g1, _⟩ := HM10.out.hm; exact lt_of g1, HM10.out.is.lt _ HM10.out.is.sf⟩
  have SH := Mk.Shade_any (w11.alloc (.cells #[.int .u64 8, .int .u64 85, .int .u64 8, .int .u64 72, .int .u64 152] 29)) mp p s F9 L3 [] [] (some ⟨w11.heap.size, 0, none⟩) 5 5 [8, 85, 8, 72, 152] (HM10.out.ch0 CA) ⟨rfl, .inr ⟨w11.heap.size, 0, rfl, (by simp; omega), fun j hj => by
    rw [cell_at (heap_new w11 _)]; simp [ints]⟩⟩ (by simp) (by intro x hx; simp at hx; omega) (HB.out _ [] (C10.out.trans' CA) (by simp)) (by have := HBL.out; have := HMP.out; have := HSF.out; simp; omega)
  rw [ex_4] at SH
  unfold LayPost at SH
  have HCA := Lib.hid (C10.out.trans' CA)
  clear CA hmplt
  go_wp2_with fail
  refine SH.mono ?_
  rintro e w12 ⟨v12, q12, F12, r12, rfl, b1, b2, b3, b4, b5, b6⟩
  have s12 := HCA.out.size
  have C12 : Hid (Ch [] w w12) := Lib.hid (HCA.out.trans b3 (fun x hx => .inr (by have := HMP.out; have := HSF.out; simp at hx; rcases hx with rfl | rfl <;> assumption)))
  have HR12 : Hid (∀ q ∈ r12, w.heap.size ≤ q) := Lib.hid (fun q hq => (b5 q hq).elim (fun h => by cases h) (fun h => by omega))
  obtain ⟨av, cv, rfl, av1, av2, _⟩ := b1.rd
  have ROW1 := Lib.hid b1
  have HM12 := Lib.hid b2
  have HQ12 := Lib.hid b6
  clear SH b1 b2 b3 b4 b5 b6 s12 HM10
  have SC := Mk.Scan_any w12 mp p s F12 L4 0 [] r12 HM12.out (by simp) (HB.out _ [] C12.out (by simp)) (by have := HBL.out; have := HMP.out; have := HSF.out; simp only [List.mem_cons, not_or]; exact ⟨by omega, by omega, fun hm => by have := HR12.out _ hm; omega⟩)
  rw [ex_5] at SC
  unfold ScanPost at SC
  go_wp2_with fail
  refine SC.mono ?_
  rintro e w13 ⟨v13, q13, F13, r13, rfl, b1, b2, b3, b4, b5, b6⟩
  have s12 := C12.out.size
  have C13 : Hid (Ch [] w w13) := Lib.hid (C12.out.trans b3 (fun x hx => .inr (by
    have := HMP.out
    have := HSF.out
    simp only [List.mem_cons] at hx
    rcases hx with rfl | rfl | hx
    · assumption
    · assumption
    · exact HR12.out _ hx)))
  have HR13 : Hid (∀ q ∈ r13, w.heap.size ≤ q) := Lib.hid (fun q hq => (b5 q hq).elim (HR12.out q) (fun h => by omega))
  have ROW1' := Lib.hid (keep_row ROW1.out b3 (fun q hq => ⟨(HQ12.out q hq).2.2.2.2, fun e => (HQ12.out q hq).2.2.1 (e ▸ HM12.out.is.sf), (HQ12.out q hq).2.2.2.1⟩))
  have HX13 : Hid (∀ q ∈ q12, q ≠ mp ∧ q ≠ s ∧ q ∉ r13) := Lib.hid (fun q hq => ⟨(HQ12.out q hq).2.2.2.2, fun e => (HQ12.out q hq).2.2.1 (e ▸ HM12.out.is.sf), fun hm => (b5 q hm).elim (HQ12.out q hq).2.2.2.1 (fun h => by have := (HQ12.out q hq).2.1; omega)⟩)
  obtain ⟨aw, cw, rfl, aw1, aw2, _⟩ := b1.rd
  have ROW2 := Lib.hid b1
  have HM13 := Lib.hid b2
  have HQ13 := Lib.hid b6
  clear SC b1 b2 b3 b4 b5 b6 s12 HM12 ROW1
  have SC := Mk.Scan_any w13 mp p s F13 L5 1 [2] r13 HM13.out (by simp) (HB.out _ [] C13.out (by simp)) (by have := HBL.out; have := HMP.out; have := HSF.out; simp only [List.mem_cons, not_or]; exact ⟨by omega, by omega, fun hm => by have := HR13.out _ hm; omega⟩)
  rw [ex_6] at SC
  unfold ScanPost at SC
  go_wp2_with fail
  refine SC.mono ?_
  rintro e w14 ⟨v14, q14, F14, r14, rfl, b1, b2, b3, b4, b5, b6⟩
  have C14 : Hid (Ch [] w w14) := Lib.hid (C13.out.trans b3 (fun x hx => .inr (by
    have := HMP.out
    have := HSF.out
    simp only [List.mem_cons] at hx
    rcases hx with rfl | rfl | hx
    · assumption
    · assumption
    · exact HR13.out _ hx)))
  have RA := Lib.hid (keep_row ROW1'.out b3 HX13.out)
  have RB := Lib.hid (keep_row ROW2.out b3 (fun q hq => ⟨(HQ13.out q hq).2.2.2.2, fun e => (HQ13.out q hq).2.2.1 (e ▸ HM13.out.is.sf), (HQ13.out q hq).2.2.2.1⟩))
  obtain ⟨ax, cx, rfl, _⟩ := b1.rd
  have HM14 := Lib.hid b2
  clear SC b1 b2 b3 b4 b5 b6 HM13 ROW1' ROW2 HQ12 HQ13 HX13 HR12 HR13 C13 C12 HCA C10
  have ra := RA.out.rd
  obtain ⟨_, _, he, _, _, hra⟩ := ra
  simp only [Value.slice.injEq, true_and] at he
  obtain ⟨rfl, rfl⟩ := he
  rw [Nat.mul_one] at hra
  have rb := RB.out.rd
  obtain ⟨_, _, he, _, _, hrb⟩ := rb
  simp only [Value.slice.injEq, true_and] at he
  obtain ⟨rfl, rfl⟩ := he
  rw [Nat.mul_one] at hrb
  have HRA := Lib.hid hra
  have HRB := Lib.hid hrb
  clear hra hrb RA RB
  have D1 := Lib.hid ((Ch.refl [] w14).alloc (.cells #[.int .i64 0] 3))
  have Q := SameInts_any (w14.alloc (.cells #[.int .i64 0] 3)) av (some ⟨w14.heap.size, 0, none⟩) 1 cv 1 1 [0] [0] av1 av2 (by omega) (by unfold maxLen; omega) (HRA.out.ch D1.out) ⟨rfl, .inr ⟨w14.heap.size, 0, rfl, fun j hj => by rw [cell_at (heap_new w14 _)]; simp [ints]⟩⟩
  rw [show decide ([(0 : Int)] = [0]) = true from rfl] at Q
  go_wp2_with fail
  refine Q.mono ?_
  rintro e w15 ⟨rfl, d, rfl⟩
  clear Q
  have D2 := Lib.hid (D1.out.drewN d)
  generalize (w14.alloc (.cells #[.int .i64 0] 3)).drewN d = w15 at *
  have D3 := Lib.hid (D2.out.alloc (.cells #[.int .i64 1, .int .i64 2] 3))
  have Q := SameInts_any (w15.alloc (.cells #[.int .i64 1, .int .i64 2] 3)) aw (some ⟨w15.heap.size, 0, none⟩) 2 cw 2 2 [1, 2] [1, 2] aw1 aw2 (by omega) (by unfold maxLen; omega) (HRB.out.ch D3.out) ⟨rfl, .inr ⟨w15.heap.size, 0, rfl, fun j hj => by rw [cell_at (heap_new w15 _)]; simp [ints]⟩⟩
  rw [show decide ([(1 : Int), 2] = [1, 2]) = true from rfl] at Q
  go_wp2_with fail
  refine Q.mono ?_
  rintro e w16 ⟨rfl, d, rfl⟩
  clear Q
  have D4 := Lib.hid (D3.out.drewN d)
  generalize (w15.alloc (.cells #[.int .i64 1, .int .i64 2] 3)).drewN d = w16 at *
  have Q := Head_any w16 p s F14 L6 0 (HM14.out.ch0 D4.out).is
  rw [ex_7] at Q
  generalize headK L6 0 = hk at *
  generalize headE L6 0 = hE at *
  clear HRA HRB HM14
  go_wp2_with fail
  refine Q.mono ?_
  rintro e w17 ⟨rfl, d, rfl⟩
  have Z := Lib.hid (C14.out.trans' (D4.out.drewN d))
  generalize w16.drewN d = w17 at *
  clear Q D1 D2 D3 D4
  go_wp2_with fail
  go_ret
  exact ⟨rfl, Z.out⟩
theorem MarkNumbers_any (w : World) (hb : Bnd w) : Calls Tryd.prog 3 #[] w fun e w' => e = .returned (.bool true) ∧ Below w.heap.size w w' := by
  have K := works_any w hb
  clear hb
  go_enter Tryd.func3, Tryd.ntmps3
  go_wp2_with fail
  refine K.mono ?_
  rintro e w2 ⟨rfl, h⟩
  have H := Lib.hid h
  clear K h
  go_wp2_with fail
  go_ret
  exact ⟨rfl, H.out.below (by simp) (Nat.le_refl _)⟩
end Go.Proofs.YtefamhdkfdgdjaaDoor.L15
