/-
  THE LAWS of chapter 10: their example.
-/
import Derived.Test.YtggijcebobjghaaDoorQGraph12
import Derived.Test.YtggijcebobjghaaDoorQJLentC
import Derived.Test.YtggijcebobjghaaDoorQJRef10b
set_option linter.unusedVariables false
set_option linter.unusedSimpArgs false
set_option maxRecDepth 100000
namespace Go.Proofs.YtggijcebobjghaaDoor.L10
open Go.RowKit Go.Proofs.YtggijcebobjghaaDoor.Wd Go.Proofs.YtggijcebobjghaaDoor.Hp Go.Proofs.YtggijcebobjghaaDoor.Gp Go.Proofs.YtggijcebobjghaaDoor.Sm Go.Proofs.YtggijcebobjghaaDoor.Gr

def exH : List Cel := [⟨1, 0, 40, 1⟩, ⟨1, 0, 1, 1⟩, ⟨1, 0, 8, 56⟩, ⟨1, 0, 21, 1⟩]
theorem ex_reach : reach exH [8] = [true, false, true, true] := by kernel_rfl
theorem ex_met : met exH [8] = [0, 2, 3] := by kernel_rfl
theorem ex_gErr : gErr exH [8] = 0 := by kernel_rfl
theorem ex_formH : formH exH [8] = [⟨1, 0, 24, 1⟩, ⟨1, 0, 8, 40⟩, ⟨1, 0, 21, 1⟩] := by kernel_rfl
theorem ex_formW : formW exH [8] = [8] := by kernel_rfl
theorem ex_path : pathR exH [8] 3 = [0, 2, 3] := by kernel_rfl
theorem ex_is : pathIs exH [8] 3 = true := by kernel_rfl
theorem ex_pE : pathE exH [8] 3 = 0 := by kernel_rfl
theorem ex_is1 : pathIs exH [8] 1 = false := by kernel_rfl
theorem ex_pE1 : pathE exH [8] 1 = 0 := by kernel_rfl
theorem ex_chkE : checkE (exH.take 2) = 100 := by kernel_rfl
theorem ex_chkI : checkI (exH.take 2) = 0 := by kernel_rfl
theorem ex_r : refW 0 = 8 ∧ refW 1 = 24 ∧ refW 2 = 40 ∧ refW 3 = 56 ∧ mkW 1 0 = 1 ∧ mkE 1 0 = 0 ∧ mkW 5 1 = 21 := by decide
theorem heap_newE {w : World} {o : Obj} {b : Nat} (hb : b = w.heap.size) : (w.alloc o).drew.heap[b]? = some o := by subst hb; exact heap_new w o
theorem pair_any (w : World) (a b : Int) : Calls Tryd.prog 31 #[.int .u64 a, .int .u64 b] w fun e w' => e = .returned (.agg #[.int .u8 1, .int .u8 0, .int .u64 a, .int .u64 b]) ∧ w' = w.alloc (.cells #[.int .u8 1, .int .u8 0, .int .u64 a, .int .u64 b] 55) := by
  go_enter Tryd.func31, Tryd.ntmps31
  go_wp2_with fail
  refine bodyPost_ret (v := .agg #[.int .u8 1, .int .u8 0, .int .u64 a, .int .u64 b]) ?_ rfl ⟨rfl, rfl⟩
  have h := heap_new w (.cells #[.int .u8 1, .int .u8 0, .int .u64 a, .int .u64 b] 55)
  have c0 := cell_at (i := 0) h
  have c1 := cell_at (i := 1) h
  have c2 := cell_at (i := 2) h
  have c3 := cell_at (i := 3) h
  simp at c0 c1 c2 c3
  simp [results, show (Tryd.func31).results = #[.cell 4 55] from rfl]
  go_simp
theorem example_any (w : World) : Calls Tryd.prog 34 #[] w fun e w' => ∃ eb, e = .returned (.slice (some ⟨eb, 0, none⟩) 4 4) ∧ w'.heap[eb]? = some (.cells (flat exH).toArray 55 (0, 0)) ∧ Ch [] w w' ∧ w.heap.size ≤ eb := by
  obtain ⟨r0, r1, r2, r3, k1, k1', k5⟩ := ex_r
  have M := Rd.Make_any w 1 0 (by omega) (by omega)
  rw [k1, k1'] at M
  have R0 := Rd.Ref_any w 0 (by omega) (by omega)
  have R1 := Rd.Ref_any w 1 (by omega) (by omega)
  have R2 := Rd.Ref_any w 2 (by omega) (by omega)
  have R3 := Rd.Ref_any w 3 (by omega) (by omega)
  have I1 := fun w => Rd.Int_any w 1
  rw [r0] at R0
  rw [r1] at R1
  rw [r2] at R2
  rw [r3] at R3
  rw [k5] at I1
  clear r0 r1 r2 r3 k1 k1' k5
  go_enter Tryd.func34, Tryd.ntmps34
  go_wp2_with fail
  refine M.mono ?_
  rintro e w2 ⟨rfl, rfl⟩
  go_wp2_with fail
  refine R0.mono ?_
  rintro e w2 ⟨rfl, rfl⟩
  go_wp2_with fail
  refine R1.mono ?_
  rintro e w2 ⟨rfl, rfl⟩
  go_wp2_with fail
  refine R2.mono ?_
  rintro e w2 ⟨rfl, rfl⟩
  go_wp2_with fail
  refine R3.mono ?_
  rintro e w2 ⟨rfl, rfl⟩
  clear M R0 R1 R2 R3
  go_wp2_with fail
  have HK : Hid ((∀ W, Ch [] (w2.alloc (.cells #[.int .u64 8, .int .u64 24, .int .u64 40, .int .u64 56] 53)) W → W.cell? ⟨w2.heap.size, 2, none⟩ = some (.int .u64 40)) ∧ (∀ W, Ch [] (w2.alloc (.cells #[.int .u64 8, .int .u64 24, .int .u64 40, .int .u64 56] 53)) W → W.cell? ⟨w2.heap.size, 0, none⟩ = some (.int .u64 8)) ∧ (∀ W, Ch [] (w2.alloc (.cells #[.int .u64 8, .int .u64 24, .int .u64 40, .int .u64 56] 53)) W → W.cell? ⟨w2.heap.size, 3, none⟩ = some (.int .u64 56))) :=
    Lib.hid ⟨fun W h => h.cell (World.cell?_alloc_at _ _ _ _ rfl) (by simp), fun W h => h.cell (World.cell?_alloc_at _ _ _ _ rfl) (by simp), fun W h => h.cell (World.cell?_alloc_at _ _ _ _ rfl) (by simp)⟩
  go_region_held3 (fun w' => w'.cell? ⟨w2.heap.size, 2, none⟩ = some (.int .u64 40) ∧ w'.cell? ⟨w2.heap.size, 0, none⟩ = some (.int .u64 8) ∧ w'.cell? ⟨w2.heap.size, 3, none⟩ = some (.int .u64 56)) (refine ⟨HK.out.1 _ ?_, HK.out.2.1 _ ?_, HK.out.2.2 _ ?_⟩ <;> repeat (first | exact Ch.refl _ _ | apply Ch.drew | apply Ch.alloc))
    (first | (go_at_call 31; refine (pair_any _ _ _).mono ?_; rintro e w' ⟨rfl, rfl⟩) | (go_at_call 33; refine (I1 _).mono ?_; rintro e w' ⟨rfl, rfl⟩))
  all_goals
    go_wp2_with fail
    go_ret
    refine ⟨_, rfl, heap_newE (by simp), ?_, by omega⟩
    repeat (first | exact Ch.refl _ _ | apply Ch.drew | apply Ch.alloc)
/-- A word handed on by itself. -/
theorem one_word (w : World) (x : Int) : RdF (w.alloc (.cells #[.int .u64 x] 53)) (some ⟨w.heap.size, 0, none⟩) 1 (ints .u64 [x]) [] :=
  ⟨rfl, .inr ⟨w.heap.size, 0, rfl, by simp, fun j hj => by
    obtain rfl : j = 0 := by omega
    exact World.cell?_alloc_at _ _ _ _ rfl⟩⟩
theorem Row.rdl {w : World} {e : TypeId} {v : Value} {qs : List Nat} {n : Nat} {xs : List Value} (h : Row w e 1 v qs n xs) : ∃ ao cap, v = .slice ao n cap ∧ n ≤ cap ∧ cap ≤ maxLen ∧ Rd w ao n xs := by
  obtain ⟨ao, cap, h1, h2, h3, h4⟩ := h.rd
  rw [Nat.mul_one] at h4
  exact ⟨ao, cap, h1, h2, h3, h4⟩
set_option maxHeartbeats 4000000 in
theorem known_any (w : World) (hb : Bnd w) : Calls Tryd.prog 8 #[] w fun e w' => e = .returned (.bool true) ∧ Ch [] w w' := by
  obtain ⟨r0, r1, r2, r3, k1, k1', k5⟩ := ex_r
  have E := example_any w
  have HB := Lib.hid hb
  have hR0 : ∀ w, _ := fun w => Rd.Ref_any w 0 (by omega) (by omega)
  have hR1 : ∀ w, _ := fun w => Rd.Ref_any w 1 (by omega) (by omega)
  have hR2 : ∀ w, _ := fun w => Rd.Ref_any w 2 (by omega) (by omega)
  rw [r0] at hR0
  rw [r1] at hR1
  rw [r2] at hR2
  have R0 := Lib.hid hR0
  have R1 := Lib.hid hR1
  have R2 := Lib.hid hR2
  have hin : Hid (∀ x ∈ exH, InR x) := Lib.hid (by unfold InR Gp.u64 exH; simp)
  have hu : Hid (∀ v ∈ [(8 : Int)], Gp.u64 v) := Lib.hid (by unfold Gp.u64; simp)
  clear r0 r1 r2 r3 k1 k1' k5 hb hR0 hR1 hR2
  go_enter Tryd.func8, Tryd.ntmps8
  go_wp2_with fail
  refine E.mono ?_
  rintro e w1 ⟨eb, rfl, g1, g2, g3⟩
  have HH : Hid (RdF w1 (some ⟨eb, 0, none⟩) (4 * 4) (flat exH) []) := Lib.hid ⟨rfl, .inr ⟨eb, 0, rfl, by simp, fun j hj => by rw [cell_at g1]; simp⟩⟩
  have C1 := Lib.hid g2
  clear E g1 g2 g3
  go_wp2_with fail
  refine (R0.out w1).mono ?_
  rintro e w2 ⟨rfl, rfl⟩
  have A2 := Lib.hid ((Ch.refl [] w2).alloc (.cells #[.int .u64 8] 53))
  have Q := Reach_any _ (some ⟨eb, 0, none⟩) 4 exH (some ⟨w2.heap.size, 0, none⟩) 1 1 [8] (by decide) (by omega) (HH.out.ch A2.out (by simp)) (one_word w2 8) hin.out hu.out (Bnd.ch HB.out (C1.out.trans' A2.out) (by simp))
  rw [ex_reach, ex_gErr] at Q
  change Calls _ _ #[.slice (some ⟨eb, 0, none⟩) 4 4, _] _ _ at Q
  go_wp2_with fail
  refine Q.mono ?_
  rintro e w3 ⟨v, qs, rfl, h1, h2, h3⟩
  obtain ⟨vb, cb, rfl, n1, n2, n3⟩ := Row.rdl h1
  have HB3 := Lib.hid n3
  have A3 := Lib.hid (A2.out.trans' h2)
  clear Q h1 h2 h3 A2
  have B3 := Lib.hid (A3.out.alloc (.cells #[.int .u64 8] 53))
  have Q := Order_any _ (some ⟨eb, 0, none⟩) 4 exH (some ⟨w3.heap.size, 0, none⟩) 1 1 [8] (by decide) (by omega) (HH.out.ch B3.out (by simp)) (one_word w3 8) hin.out hu.out (Bnd.ch HB.out (C1.out.trans' B3.out) (by simp))
  rw [ex_met, ex_gErr] at Q
  change Calls _ _ #[.slice (some ⟨eb, 0, none⟩) 4 4, _] _ _ at Q
  go_wp2_with fail
  refine Q.mono ?_
  rintro e w4 ⟨v, qs, rfl, h1, h2, h3⟩
  obtain ⟨va, ca, rfl, m1, m2, m3⟩ := Row.rdl h1
  have HA4 := Lib.hid m3
  have A4 := Lib.hid (B3.out.trans' h2)
  have G3 := Lib.hid (((Ch.refl [] w3).alloc (.cells #[.int .u64 8] 53)).trans' h2)
  clear Q h1 h2 h3
  have B4 := Lib.hid (A4.out.alloc (.cells #[.int .u64 8] 53))
  have Q := Form_any _ (some ⟨eb, 0, none⟩) 4 exH (some ⟨w4.heap.size, 0, none⟩) 1 1 [8] (by decide) (by omega) (HH.out.ch B4.out (by simp)) (one_word w4 8) hin.out hu.out (Bnd.ch HB.out (C1.out.trans' B4.out) (by simp))
  change Calls _ _ #[.slice (some ⟨eb, 0, none⟩) 4 4, _] _ _ at Q
  go_wp2_with fail
  refine Q.mono ?_
  rintro e w5 ⟨vx, qx, vy, qy, rfl, h1, h2, h3, h4, h5, h6⟩
  rw [ex_formH] at h1
  rw [ex_formW] at h2
  rw [ex_gErr]
  obtain ⟨ax, cx, rfl, x1, x2⟩ := Row.rdF h1
  obtain ⟨ay, cy, rfl, y1, y2⟩ := Row.rdF h2
  obtain ⟨xb, xo, rfl, _, hx⟩ := x2.2.resolve_left (by simp)
  obtain ⟨yb, yo, rfl, _, hy⟩ := y2.2.resolve_left (by simp)
  have X0 := Lib.hid (hx 2 (by simp))
  have X1 := Lib.hid (hx 7 (by simp))
  have Y0 := Lib.hid (hy 0 (by simp))
  have A5 := Lib.hid (B4.out.trans' h3)
  have G4 := Lib.hid (((Ch.refl [] w4).alloc (.cells #[.int .u64 8] 53)).trans' h3)
  clear Q h1 h2 h3 h4 h5 h6 x1 x2 y1 y2 hx hy
  have B5 := Lib.hid (A5.out.alloc (.cells #[.int .u64 8] 53))
  have Q := Path_any _ (some ⟨eb, 0, none⟩) 4 exH 3 (some ⟨w5.heap.size, 0, none⟩) 1 1 [8] (by decide) (by omega) (HH.out.ch B5.out (by simp)) (one_word w5 8) hin.out hu.out (Bnd.ch HB.out (C1.out.trans' B5.out) (by simp))
  change Calls _ _ #[.slice (some ⟨eb, 0, none⟩) 4 4, _, _] _ _ at Q
  go_wp2_with fail
  refine Q.mono ?_
  rintro e w6 ⟨v, qs, rfl, h1, h2, h3⟩
  rw [ex_path] at h1
  rw [ex_is, ex_pE]
  obtain ⟨vp, cp, rfl, p1, p2, p3⟩ := Row.rdl h1
  have HP6 := Lib.hid p3
  have A6 := Lib.hid (B5.out.trans' h2)
  have G5 := Lib.hid (((Ch.refl [] w5).alloc (.cells #[.int .u64 8] 53)).trans' h2)
  clear Q h1 h2 h3
  have B6 := Lib.hid (A6.out.alloc (.cells #[.int .u64 8] 53))
  have Q := Path_any _ (some ⟨eb, 0, none⟩) 4 exH 1 (some ⟨w6.heap.size, 0, none⟩) 1 1 [8] (by decide) (by omega) (HH.out.ch B6.out (by simp)) (one_word w6 8) hin.out hu.out (Bnd.ch HB.out (C1.out.trans' B6.out) (by simp))
  change Calls _ _ #[.slice (some ⟨eb, 0, none⟩) 4 4, _, _] _ _ at Q
  go_wp2_with fail
  refine Q.mono ?_
  rintro e w7 ⟨v, qs, rfl, h1, h2, h3⟩
  rw [ex_is1, ex_pE1]
  obtain ⟨vn, cn, rfl, _⟩ := Row.rdl h1
  have A7 := Lib.hid (B6.out.trans' h2)
  have G6 := Lib.hid (((Ch.refl [] w6).alloc (.cells #[.int .u64 8] 53)).trans' h2)
  clear Q h1 h2 h3
  have Q := Check_any w7 (some ⟨eb, 0, none⟩) 4 (exH.take 2) (by decide) ⟨rfl, .inr ⟨eb, 0, rfl, by simp, fun j hj => by
    have hj' : j < 8 := hj
    obtain ⟨b, off, e, _, hc⟩ := HH.out.2.resolve_left (by simp)
    cases e
    have h3 := hc j (by omega)
    have h4 : (flat exH)[j]? = (flat (exH.take 2))[j]? := by
      rcases (by omega : j = 0 ∨ j = 1 ∨ j = 2 ∨ j = 3 ∨ j = 4 ∨ j = 5 ∨ j = 6 ∨ j = 7) with rfl | rfl | rfl | rfl | rfl | rfl | rfl | rfl <;> rfl
    have h5 : ∃ u, (flat exH)[j]? = some u := by
      rcases (by omega : j = 0 ∨ j = 1 ∨ j = 2 ∨ j = 3 ∨ j = 4 ∨ j = 5 ∨ j = 6 ∨ j = 7) with rfl | rfl | rfl | rfl | rfl | rfl | rfl | rfl <;> exact ⟨_, rfl⟩
    obtain ⟨u, hu⟩ := h5
    rw [← h4, hu]
    rw [hu] at h3
    exact A7.out.cell h3 (by simp)⟩⟩ (fun x hx => hin.out x (List.mem_of_mem_take hx)) (Bnd.ch HB.out (C1.out.trans' A7.out) (by simp))
  change Calls _ _ #[.slice (some ⟨eb, 0, none⟩) 2 4] _ _ at Q
  go_wp2_with fail
  refine Q.mono ?_
  rintro e w8 ⟨rfl, h2⟩
  rw [ex_chkE, ex_chkI]
  have A8 := Lib.hid (A7.out.trans' h2)
  have G7 := Lib.hid h2
  clear Q h2
  have K67 := Lib.hid (G6.out.trans' G7.out)
  have K57 := Lib.hid (G5.out.trans' K67.out)
  have K47 := Lib.hid (G4.out.trans' K57.out)
  have K37 := Lib.hid (G3.out.trans' K47.out)
  have D8 := Lib.hid ((Ch.refl [] w8).alloc (.cells #[.bool true, .bool false, .bool true, .bool true] 4))
  have Q := SameBools_any (w8.alloc (.cells #[.bool true, .bool false, .bool true, .bool true] 4)) vb (some ⟨w8.heap.size, 0, none⟩) 4 cb 4 4 [true, false, true, true] [true, false, true, true] n1 n2 (by omega) (by unfold maxLen; omega) (HB3.out.ch (K37.out.trans' D8.out)) ⟨rfl, .inr ⟨w8.heap.size, 0, rfl, fun j hj => by rw [cell_at (heap_new w8 _)]; simp [bools]⟩⟩
  rw [show decide ([true, false, true, true] = [true, false, true, true]) = true from rfl] at Q
  go_wp2_with fail
  refine Q.mono ?_
  rintro e w9 ⟨rfl, d, rfl⟩
  clear Q
  have D9 := Lib.hid (D8.out.drewN d)
  generalize (w8.alloc (.cells #[.bool true, .bool false, .bool true, .bool true] 4)).drewN d = w9 at *
  have E9 := Lib.hid (D9.out.alloc (.cells #[.int .i64 0, .int .i64 2, .int .i64 3] 3))
  have Q := SameInts_any (w9.alloc (.cells #[.int .i64 0, .int .i64 2, .int .i64 3] 3)) va (some ⟨w9.heap.size, 0, none⟩) 3 ca 3 3 [0, 2, 3] [0, 2, 3] m1 m2 (by omega) (by unfold maxLen; omega) (HA4.out.ch (K47.out.trans' E9.out)) ⟨rfl, .inr ⟨w9.heap.size, 0, rfl, fun j hj => by rw [cell_at (heap_new w9 _)]; simp [ints]⟩⟩
  rw [show decide ([(0 : Int), 2, 3] = [0, 2, 3]) = true from rfl] at Q
  go_wp2_with fail
  refine Q.mono ?_
  rintro e w10 ⟨rfl, d, rfl⟩
  clear Q
  have D10 := Lib.hid (E9.out.drewN d)
  generalize (w9.alloc (.cells #[.int .i64 0, .int .i64 2, .int .i64 3] 3)).drewN d = w10 at *
  have E10 := Lib.hid (D10.out.alloc (.cells #[.int .i64 0, .int .i64 2, .int .i64 3] 3))
  have Q := SameInts_any (w10.alloc (.cells #[.int .i64 0, .int .i64 2, .int .i64 3] 3)) vp (some ⟨w10.heap.size, 0, none⟩) 3 cp 3 3 [0, 2, 3] [0, 2, 3] p1 p2 (by omega) (by unfold maxLen; omega) (HP6.out.ch (K67.out.trans' E10.out)) ⟨rfl, .inr ⟨w10.heap.size, 0, rfl, fun j hj => by rw [cell_at (heap_new w10 _)]; simp [ints]⟩⟩
  rw [show decide ([(0 : Int), 2, 3] = [0, 2, 3]) = true from rfl] at Q
  go_wp2_with fail
  refine Q.mono ?_
  rintro e w11 ⟨rfl, d, rfl⟩
  clear Q
  have D11 := Lib.hid (E10.out.drewN d)
  generalize (w10.alloc (.cells #[.int .i64 0, .int .i64 2, .int .i64 3] 3)).drewN d = w11 at *
  have Z := Lib.hid (C1.out.trans' (A8.out.trans' D11.out))
  have q0 := (K57.out.trans' D11.out).cell X0.out (by simp)
  have q1 := (K57.out.trans' D11.out).cell X1.out (by simp)
  have q2 := (K57.out.trans' D11.out).cell Y0.out (by simp)
  have q1' : w11.cell? ⟨xb, xo + 4 + 3, none⟩ = some (.int .u64 40) := q1
  have q2' : w11.cell? ⟨yb, yo, none⟩ = some (.int .u64 8) := q2
  have q0' : w11.cell? ⟨xb, xo + 2, none⟩ = some (.int .u64 24) := q0
  have HQ1 : ∀ n, Calls Tryd.prog 32 #[.int .i64 1] (w11.drewN n) fun e w' => e = .returned (.int .u64 24) ∧ ∃ m, w' = w11.drewN m := fun n => (R1.out (w11.drewN n)).mono (fun e w' h => ⟨h.1, n, h.2⟩)
  have HQ2 : ∀ n, Calls Tryd.prog 32 #[.int .i64 2] (w11.drewN n) fun e w' => e = .returned (.int .u64 40) ∧ ∃ m, w' = w11.drewN m := fun n => (R2.out (w11.drewN n)).mono (fun e w' h => ⟨h.1, n, h.2⟩)
  clear q0 q1 q2 D8 D9 D10 D11 E9 E10 HB3 HA4 HP6 K67 K57 K47 K37 A8 A7 A6 A5 A4 A3 B3 B4 B5 B6 G3 G4 G5 G6 G7 X0 X1 Y0 HH R0 hin hu HB C1
  have R1' := R1
  have R2' := R2
  clear R1 R2
  go_wp2_with fail
  have PA := R1'.out w11.drew
  have PB := R2'.out w11.drew
  have t0 : w11.drew.cell? ⟨xb, xo + 2, none⟩ = some (.int .u64 24) := q0'
  have t1 : w11.drew.cell? ⟨xb, xo + 4 + 3, none⟩ = some (.int .u64 40) := q1'
  have t2 : w11.drew.cell? ⟨yb, yo, none⟩ = some (.int .u64 8) := q2'
  clear q0' q1' q2' HQ1 HQ2
  refine wp_region_still_tail 29 (by kernel_rfl) (by kernel_rfl) ?_
  simp only [List.take_succ_cons, List.take_zero, List.drop_succ_cons, List.drop_zero]
  (iterate 11 still_step)
  still_call PA
  (iterate 7 still_step)
  still_call PB
  (iterate 9 still_step)
  refine wpStill_nil ?_
  change wpList _ _ _ _ _ w11.drew
  go_wp2_with fail
  go_ret
  exact ⟨rfl, Z.out.drew⟩
end Go.Proofs.YtggijcebobjghaaDoor.L10
