/-
  THE LAWS of chapter 13: their examples.
-/
import Derived.Test.YtlhhcocdhkbdnaaDoorQHolds
import Derived.Test.YtlhhcocdhkbdnaaDoorQJLentI
import Derived.Test.YtlhhcocdhkbdnaaDoorQJRef10b
import Derived.Deep.RegionWith
set_option linter.unusedVariables false
set_option linter.unusedSimpArgs false
set_option maxRecDepth 100000
namespace Go.Proofs.YtlhhcocdhkbdnaaDoor.L13
open Go.RowKit Go.Proofs.YtlhhcocdhkbdnaaDoor.Wd Go.Proofs.YtlhhcocdhkbdnaaDoor.Hp Go.Proofs.YtlhhcocdhkbdnaaDoor.Gp Go.Proofs.YtlhhcocdhkbdnaaDoor.Sm Go.Proofs.YtlhhcocdhkbdnaaDoor.Gr Go.Proofs.YtlhhcocdhkbdnaaDoor.Bp
def exH : List Cel := [⟨1, 0, 21, 5⟩, ⟨1, 0, 37, 5⟩]
def exL : List Ln := [⟨[24, 8], false, false⟩]
def ex1 : Vw := ⟨[⟨1, 0, 21, 5⟩, ⟨1, 2, 8, 5⟩], 2, 0, [], [], 0, exL⟩
def ex2 : Vw := ⟨[⟨1, 0, 21, 5⟩, ⟨1, 1, 8, 5⟩], 2, 0, [1], [], 0, exL⟩
theorem ex_a : storeL 2 true 8 24 exH = [0] := by kernel_rfl
theorem ex_b : storeL 2 false 8 24 exH = [0, 1] := by kernel_rfl
theorem ex_c : fillL 1 false 24 8 exH = [1, 0] := by kernel_rfl
theorem ex_d : birthC 3 3 3 = 2 := by kernel_rfl
theorem ex_may : mayV ex1 = true := by kernel_rfl
theorem ex_by : byL ex1 = [true, false] := by kernel_rfl
theorem ex_well : wellL ex1 = [false, false] := by kernel_rfl
theorem ex_hb : holdsB ex1 = false := by kernel_rfl
theorem ex_hi : holdsI ex1 = 0 := by kernel_rfl
theorem ex_he : holdsE ex1 = 0 := by kernel_rfl
theorem ex_hb2 : holdsB ex2 = true := by kernel_rfl
theorem ex_hi2 : holdsI ex2 = 0 := by kernel_rfl
theorem ex_he2 : holdsE ex2 = 0 := by kernel_rfl
theorem ex_r : refW 0 = 8 ∧ refW 1 = 24 ∧ mkW 5 0 = 5 ∧ mkW 5 1 = 21 ∧ mkW 5 2 = 37 := by decide
theorem pair_any (w : World) (c a : Int) : Calls Tryd.prog 35 #[.int .u8 c, .int .u64 a] w fun e w' => e = .returned (.agg #[.int .u8 1, .int .u8 c, .int .u64 a, .int .u64 5]) ∧ w' = w.alloc (.cells #[.int .u8 1, .int .u8 c, .int .u64 a, .int .u64 5] 58) := by
  have I := fun w => Rd.Int_any w 0
  rw [ex_r.2.2.1] at I
  go_enter Tryd.func35, Tryd.ntmps35
  go_wp2_with (go_at_call 36; refine (I _).mono ?_; rintro e w' ⟨rfl, rfl⟩)
  refine bodyPost_ret (v := .agg #[.int .u8 1, .int .u8 c, .int .u64 a, .int .u64 5]) ?_ rfl ⟨rfl, rfl⟩
  have h := heap_new w (.cells #[.int .u8 1, .int .u8 c, .int .u64 a, .int .u64 5] 58)
  have c0 := cell_at (i := 0) h
  have c1 := cell_at (i := 1) h
  have c2 := cell_at (i := 2) h
  have c3 := cell_at (i := 3) h
  simp at c0 c1 c2 c3
  simp [results, show (Tryd.func35).results = #[.cell 4 58] from rfl]
  go_simp
theorem Row.rdl {w : World} {e : TypeId} {v : Value} {qs : List Nat} {n : Nat} {xs : List Value} (h : Row w e 1 v qs n xs) : ∃ ao cap, v = .slice ao n cap ∧ n ≤ cap ∧ cap ≤ maxLen ∧ Rd w ao n xs := by
  obtain ⟨ao, cap, h1, h2, h3, h4⟩ := h.rd
  rw [Nat.mul_one] at h4
  exact ⟨ao, cap, h1, h2, h3, h4⟩
theorem rd_block {w : World} {b : Nat} {xs : List Value} {t : TypeId} {fr : Nat × Nat} (h : w.heap[b]? = some (.cells xs.toArray t fr)) (n : Nat) (hn : xs.length = n) : RdF w (some ⟨b, 0, none⟩) n xs [] :=
  ⟨hn, .inr ⟨b, 0, rfl, by simp, fun j hj => by rw [cell_at h, Nat.zero_add]; simp⟩⟩
def exA (cb lb rb gb : Nat) (g : Option Addr) (gc : Nat) : VA := ⟨some ⟨cb, 0, none⟩, 2, g, gc, none, 0, some ⟨lb, 0, none⟩, 1, fun _ => some ⟨rb, 0, none⟩, fun _ => 2⟩
theorem ex_vr1 : VR ex1 := by
  refine ⟨?_, by decide, by decide, by decide, by simp [ex1], by simp [ex1], ?_, by decide, by decide, by decide, by decide, by decide⟩
  · unfold InR Gp.u64 ex1; simp
  · unfold Gp.u64 ex1 exL; simp
theorem ex_vr2 : VR ex2 := by
  refine ⟨?_, by decide, by decide, by decide, by simp [ex2], by simp [ex2], ?_, by decide, by decide, by decide, by decide, by decide⟩
  · unfold InR Gp.u64 ex2; simp
  · unfold Gp.u64 ex2 exL; simp
theorem nv_ints (l : List Nat) : nv l = ints .i64 (l.map (fun (c : Nat) => (c : Int))) := by simp [nv, ints]
theorem six (w : World) (a b c d e f : Obj) : (((((((w.alloc a).alloc b).alloc c).alloc d).alloc e).alloc f).heap[w.heap.size + 1 + 1]? = some c ∧ ((((((w.alloc a).alloc b).alloc c).alloc d).alloc e).alloc f).heap[w.heap.size + 1 + 1 + 1]? = some d ∧ ((((((w.alloc a).alloc b).alloc c).alloc d).alloc e).alloc f).heap[w.heap.size + 1 + 1 + 1 + 1]? = some e ∧ ((((((w.alloc a).alloc b).alloc c).alloc d).alloc e).alloc f).heap[w.heap.size + 1 + 1 + 1 + 1 + 1]? = some f) ∧ Ch [] w ((((((w.alloc a).alloc b).alloc c).alloc d).alloc e).alloc f) ∧ ((((((w.alloc a).alloc b).alloc c).alloc d).alloc e).alloc f).heap.size = w.heap.size + 6 := by
  have h2 := heap_new ((w.alloc a).alloc b) c
  have h3 := heap_new (((w.alloc a).alloc b).alloc c) d
  have h4 := heap_new ((((w.alloc a).alloc b).alloc c).alloc d) e
  have h5 := heap_new (((((w.alloc a).alloc b).alloc c).alloc d).alloc e) f
  simp only [World.size_alloc] at h2 h3 h4 h5
  refine ⟨⟨heap_old (heap_old (heap_old h2)), heap_old (heap_old h3), heap_old h4, h5⟩, (((((Ch.refl _ _).alloc _).alloc _).alloc _).alloc _).alloc _ |>.alloc _, by simp only [World.size_alloc]⟩
/-- The example's view lies so. -/
structure ExM (w : World) (v : Vw) (cb rb lb vb : Nat) (g : Option Addr) (gc : Nat) : Prop where
  c : w.heap[cb]? = some (.cells (flat v.cells).toArray 58 (0, 0))
  r : w.heap[rb]? = some (.cells (ints .u64 [24, 8]).toArray 24 (0, 0))
  l : w.heap[lb]? = some (.cells #[.slice (some ⟨rb, 0, none⟩) 2 2, .bool false, .bool false] 71 (0, 0))
  v : w.heap[vb]? = some (.cells ((exA cb lb rb 0 g gc).arr v) 65 (0, 0))
theorem ExM.ch {w w' : World} {v : Vw} {cb rb lb vb gc : Nat} {g : Option Addr} (h : ExM w v cb rb lb vb g gc) (hc : Ch [] w w') : ExM w' v cb rb lb vb g gc :=
  ⟨hc.heap h.c (by simp), hc.heap h.r (by simp), hc.heap h.l (by simp), hc.heap h.v (by simp)⟩
theorem ExM.vm1 {w : World} {cb rb lb vb : Nat} (h : ExM w ex1 cb rb lb vb none 0) : VM w (exA cb lb rb 0 none 0) ex1 :=
  ⟨rd_block h.c _ rfl, ⟨rfl, .inl rfl⟩, ⟨rfl, .inl rfl⟩, rd_block (xs := [.slice (some ⟨rb, 0, none⟩) 2 2, .bool false, .bool false]) h.l _ rfl, fun j hj => by
    obtain rfl : j = 0 := by simp [ex1, exL] at hj; exact hj
    exact rd_block h.r _ rfl, Nat.le_refl 0⟩
theorem ExM.vm2 {w : World} {cb rb lb vb gb : Nat} (h : ExM w ex2 cb rb lb vb (some ⟨gb, 0, none⟩) 1) (hg : w.heap[gb]? = some (.cells (ints .i64 [1]).toArray 3 (0, 0))) : VM w (exA cb lb rb 0 (some ⟨gb, 0, none⟩) 1) ex2 :=
  ⟨rd_block h.c _ rfl, rd_block hg _ rfl, ⟨rfl, .inl rfl⟩, rd_block (xs := [.slice (some ⟨rb, 0, none⟩) 2 2, .bool false, .bool false]) h.l _ rfl, fun j hj => by
    obtain rfl : j = 0 := by simp [ex2, exL] at hj; exact hj
    exact rd_block h.r _ rfl, Nat.le_refl 0⟩
theorem ExM.k {w : World} {v : Vw} {cb rb lb vb gc : Nat} {g : Option Addr} (h : ExM w v cb rb lb vb g gc) : w.cell? ⟨vb, 0, none⟩ = some (.slice (some ⟨cb, 0, none⟩) v.cells.length 2) ∧ w.cell? ⟨vb, 1, none⟩ = some (.int .u8 v.ph) ∧ w.cell? ⟨vb, 2, none⟩ = some (.int .i64 v.sw) ∧ w.cell? ⟨vb, 3, none⟩ = some (.slice g v.grey.length gc) ∧ w.cell? ⟨vb, 4, none⟩ = some (.slice none v.globals.length 0) ∧ w.cell? ⟨vb, 5, none⟩ = some (.int .i64 v.laid) ∧ w.cell? ⟨vb, 6, none⟩ = some (.slice (some ⟨lb, 0, none⟩) v.lanes.length 1) := by
  have hh := h.v
  unfold VA.arr exA at hh
  exact ⟨cell_at hh, cell_at hh, cell_at hh, cell_at hh, cell_at hh, cell_at hh, cell_at hh⟩
set_option maxHeartbeats 4000000 in
theorem known_any (w : World) (hb : Bnd w) : Calls Tryd.prog 11 #[] w fun e w' => e = .returned (.bool true) ∧ Ch [] w w' := by
  obtain ⟨r0, r1, k0, k1, k2⟩ := ex_r
  have R0 := Rd.Ref_any w 0 (by omega) (by omega)
  have R1 := Rd.Ref_any w 1 (by omega) (by omega)
  have I1 := Lib.hid (fun w => Rd.Int_any w 1)
  have I2 := Lib.hid (fun w => Rd.Int_any w 2)
  rw [r0] at R0
  rw [r1] at R1
  rw [k1] at I1
  rw [k2] at I2
  have HB := Lib.hid hb
  clear r0 r1 k0 k1 k2 hb
  go_enter Tryd.func11, Tryd.ntmps11
  go_wp2_with fail
  refine R0.mono ?_
  rintro e w2 ⟨rfl, rfl⟩
  go_wp2_with fail
  refine R1.mono ?_
  rintro e w2 ⟨rfl, rfl⟩
  clear R0 R1
  go_wp2_with fail
  refine (I1.out _).mono ?_
  rintro e w' ⟨rfl, rfl⟩
  go_wp2_with fail
  refine (pair_any _ _ _).mono ?_
  rintro e w' ⟨rfl, rfl⟩
  go_wp2_with fail
  refine (I2.out _).mono ?_
  rintro e w3 ⟨rfl, rfl⟩
  go_wp2_with fail
  refine (pair_any _ _ _).mono ?_
  rintro e w3 ⟨rfl, rfl⟩
  go_wp2_with fail
  have h3 : ∀ w' : World, ((((w'.alloc (.cells #[.int .u8 1, .int .u8 0, .int .u64 21, .int .u64 5] 58)).alloc (.cells #[.int .u8 1, .int .u8 0, .int .u64 37, .int .u64 5] 58)).alloc (.cells #[.int .u8 1, .int .u8 0, .int .u64 21, .int .u64 5, .int .u8 1, .int .u8 0, .int .u64 37, .int .u64 5] 58)).heap[w'.heap.size + 1 + 1]? = some (.cells (flat exH).toArray 58 (0, 0))) ∧ Ch [] w' (((w'.alloc (.cells #[.int .u8 1, .int .u8 0, .int .u64 21, .int .u64 5] 58)).alloc (.cells #[.int .u8 1, .int .u8 0, .int .u64 37, .int .u64 5] 58)).alloc (.cells #[.int .u8 1, .int .u8 0, .int .u64 21, .int .u64 5, .int .u8 1, .int .u8 0, .int .u64 37, .int .u64 5] 58)) := fun w' => by
    refine ⟨?_, (((Ch.refl _ _).alloc _).alloc _).alloc _⟩
    have := heap_new ((w'.alloc (.cells #[.int .u8 1, .int .u8 0, .int .u64 21, .int .u64 5] 58)).alloc (.cells #[.int .u8 1, .int .u8 0, .int .u64 37, .int .u64 5] 58)) (.cells #[.int .u8 1, .int .u8 0, .int .u64 21, .int .u64 5, .int .u8 1, .int .u8 0, .int .u64 37, .int .u64 5] 58)
    rw [World.size_alloc, World.size_alloc] at this
    exact this
  obtain ⟨q1, q2⟩ := h3 w'
  clear h3
  generalize ((w'.alloc (.cells #[.int .u8 1, .int .u8 0, .int .u64 21, .int .u64 5] 58)).alloc (.cells #[.int .u8 1, .int .u8 0, .int .u64 37, .int .u64 5] 58)).alloc (.cells #[.int .u8 1, .int .u8 0, .int .u64 21, .int .u64 5, .int .u8 1, .int .u8 0, .int .u64 37, .int .u64 5] 58) = W3 at *
  generalize w'.heap.size + 1 + 1 = hbk at *
  have HH : Hid (RdF W3 (some ⟨hbk, 0, none⟩) (2 * 4) (flat exH) []) := Lib.hid (rd_block q1 _ rfl)
  have C3 := Lib.hid q2
  have hin : Hid (∀ x ∈ exH, InR x) := Lib.hid (by unfold InR Gp.u64 exH; simp)
  clear q1 q2
  have hU8 : Gp.u64 8 := by unfold Gp.u64; omega
  have hU24 : Gp.u64 24 := by unfold Gp.u64; omega
  have HU8 := Lib.hid hU8
  have HU24 := Lib.hid hU24
  clear hU8 hU24
  have Q := Bp.Store_any W3 (some ⟨hbk, 0, none⟩) 2 exH 2 true 8 24 (by decide) HH.out hin.out HU8.out HU24.out (Bnd.ch HB.out C3.out (by simp))
  rw [ex_a] at Q
  change Calls _ _ #[_, _, _, _, .slice (some ⟨hbk, 0, none⟩) 2 2] _ _ at Q
  refine Q.mono ?_
  rintro e w4 ⟨v, qs, rfl, h1, h2, h3⟩
  obtain ⟨aa, ca, rfl, ea1, ea2, ea3⟩ := Row.rdl h1
  have A4 := Lib.hid h2
  have RA := Lib.hid ea3
  clear Q h1 h2 h3 ea3
  have Q := Bp.Store_any w4 (some ⟨hbk, 0, none⟩) 2 exH 2 false 8 24 (by decide) (HH.out.ch A4.out (by simp)) hin.out HU8.out HU24.out (Bnd.ch HB.out (C3.out.trans' A4.out) (by simp))
  rw [ex_b] at Q
  change Calls _ _ #[_, _, _, _, .slice (some ⟨hbk, 0, none⟩) 2 2] _ _ at Q
  go_wp2_with fail
  refine Q.mono ?_
  rintro e w5 ⟨v, qs, rfl, h1, h2, h3⟩
  obtain ⟨ab, cb, rfl, eb1, eb2, eb3⟩ := Row.rdl h1
  have A5 := Lib.hid (A4.out.trans' h2)
  have G5 := Lib.hid h2
  have RB := Lib.hid eb3
  clear Q h1 h2 h3 eb3
  have Q := Bp.Fill_any w5 (some ⟨hbk, 0, none⟩) 2 exH 1 false 24 8 (by decide) (HH.out.ch A5.out (by simp)) hin.out HU24.out HU8.out (Bnd.ch HB.out (C3.out.trans' A5.out) (by simp))
  rw [ex_c] at Q
  change Calls _ _ #[_, _, _, _, .slice (some ⟨hbk, 0, none⟩) 2 2] _ _ at Q
  go_wp2_with fail
  refine Q.mono ?_
  rintro e w6 ⟨v, qs, rfl, h1, h2, h3⟩
  obtain ⟨ac, cc, rfl, ec1, ec2, ec3⟩ := Row.rdl h1
  have A6 := Lib.hid (A5.out.trans' h2)
  have G6 := Lib.hid h2
  have RC := Lib.hid ec3
  clear Q h1 h2 h3 ec3 HH
  have Q := Bp.Birth_any w6 3 3 3
  rw [ex_d] at Q
  go_wp2_with fail
  refine Q.mono ?_
  rintro e w7 ⟨rfl, rfl⟩
  clear Q
  have D7 := Lib.hid ((Ch.refl [] w7).alloc (.cells #[.int .i64 0] 3))
  have Q := SameInts_any (w7.alloc (.cells #[.int .i64 0] 3)) aa (some ⟨w7.heap.size, 0, none⟩) 1 ca 1 1 [0] [0] ea1 ea2 (by omega) (by unfold maxLen; omega) (RA.out.ch ((G5.out.trans' G6.out).trans' D7.out)) ⟨rfl, .inr ⟨w7.heap.size, 0, rfl, fun j hj => by rw [cell_at (heap_new w7 _)]; simp [ints]⟩⟩
  rw [show decide ([(0 : Int)] = [0]) = true from rfl] at Q
  go_wp2_with fail
  refine Q.mono ?_
  rintro e w8 ⟨rfl, d, rfl⟩
  clear Q
  have D8 := Lib.hid (D7.out.drewN d)
  generalize (w7.alloc (.cells #[.int .i64 0] 3)).drewN d = w8 at *
  have E8 := Lib.hid (D8.out.alloc (.cells #[.int .i64 0, .int .i64 1] 3))
  have Q := SameInts_any (w8.alloc (.cells #[.int .i64 0, .int .i64 1] 3)) ab (some ⟨w8.heap.size, 0, none⟩) 2 cb 2 2 [0, 1] [0, 1] eb1 eb2 (by omega) (by unfold maxLen; omega) (RB.out.ch (G6.out.trans' E8.out)) ⟨rfl, .inr ⟨w8.heap.size, 0, rfl, fun j hj => by rw [cell_at (heap_new w8 _)]; simp [ints]⟩⟩
  rw [show decide ([(0 : Int), 1] = [0, 1]) = true from rfl] at Q
  go_wp2_with fail
  refine Q.mono ?_
  rintro e w9 ⟨rfl, d, rfl⟩
  clear Q
  have D9 := Lib.hid (E8.out.drewN d)
  generalize (w8.alloc (.cells #[.int .i64 0, .int .i64 1] 3)).drewN d = w9 at *
  have E9 := Lib.hid (D9.out.alloc (.cells #[.int .i64 1, .int .i64 0] 3))
  have Q := SameInts_any (w9.alloc (.cells #[.int .i64 1, .int .i64 0] 3)) ac (some ⟨w9.heap.size, 0, none⟩) 2 cc 2 2 [1, 0] [1, 0] ec1 ec2 (by omega) (by unfold maxLen; omega) (RC.out.ch E9.out) ⟨rfl, .inr ⟨w9.heap.size, 0, rfl, fun j hj => by rw [cell_at (heap_new w9 _)]; simp [ints]⟩⟩
  rw [show decide ([(1 : Int), 0] = [1, 0]) = true from rfl] at Q
  go_wp2_with fail
  refine Q.mono ?_
  rintro e w10 ⟨rfl, d, rfl⟩
  clear Q
  have Z10 := Lib.hid (C3.out.trans' (A6.out.trans' (E9.out.drewN d)))
  generalize (w9.alloc (.cells #[.int .i64 1, .int .i64 0] 3)).drewN d = w10 at *
  clear D7 D8 E8 D9 E9 RA RB RC ea1 ea2 eb1 eb2 ec1 ec2 A4 A5 A6 G5 G6 C3 hin
  go_wp2_with fail
  refine (I1.out _).mono ?_
  rintro e w11 ⟨rfl, rfl⟩
  go_wp2_with fail
  refine (pair_any _ _ _).mono ?_
  rintro e w12 ⟨rfl, rfl⟩
  go_wp2_with fail
  refine (pair_any _ _ _).mono ?_
  rintro e w12 ⟨rfl, rfl⟩
  go_wp2_with fail
  obtain ⟨⟨q1, q2, q3, q4⟩, q5, q6⟩ := six w11 (.cells #[.int .u8 1, .int .u8 0, .int .u64 21, .int .u64 5] 58) (.cells #[.int .u8 1, .int .u8 2, .int .u64 8, .int .u64 5] 58) (.cells #[.int .u8 1, .int .u8 0, .int .u64 21, .int .u64 5, .int .u8 1, .int .u8 2, .int .u64 8, .int .u64 5] 58) (.cells #[.int .u64 24, .int .u64 8] 24) (.cells #[.slice (some ⟨w11.heap.size + 1 + 1 + 1, 0, none⟩) 2 2, .bool false, .bool false] 71) (.cells #[.slice (some ⟨w11.heap.size + 1 + 1, 0, none⟩) 2 2, .int .u8 2, .int .i64 0, .slice none 0 0, .slice none 0 0, .int .i64 0, .slice (some ⟨w11.heap.size + 1 + 1 + 1 + 1, 0, none⟩) 1 1] 65)
  generalize (((((w11.alloc (.cells #[.int .u8 1, .int .u8 0, .int .u64 21, .int .u64 5] 58)).alloc (.cells #[.int .u8 1, .int .u8 2, .int .u64 8, .int .u64 5] 58)).alloc (.cells #[.int .u8 1, .int .u8 0, .int .u64 21, .int .u64 5, .int .u8 1, .int .u8 2, .int .u64 8, .int .u64 5] 58)).alloc (.cells #[.int .u64 24, .int .u64 8] 24)).alloc (.cells #[.slice (some ⟨w11.heap.size + 1 + 1 + 1, 0, none⟩) 2 2, .bool false, .bool false] 71)).alloc (.cells #[.slice (some ⟨w11.heap.size + 1 + 1, 0, none⟩) 2 2, .int .u8 2, .int .i64 0, .slice none 0 0, .slice none 0 0, .int .i64 0, .slice (some ⟨w11.heap.size + 1 + 1 + 1 + 1, 0, none⟩) 1 1] 65) = W at *
  have hn1 : Hid (w11.heap.size + 1 + 1 ≠ w11.heap.size + 1 + 1 + 1 ∧ w11.heap.size + 1 + 1 ≠ w11.heap.size + 1 + 1 + 1 + 1 ∧ w11.heap.size + 1 + 1 ≠ w11.heap.size + 1 + 1 + 1 + 1 + 1 ∧ w11.heap.size + 1 + 1 + 1 ≠ w11.heap.size + 1 + 1 + 1 + 1 + 1 ∧ w11.heap.size + 1 + 1 + 1 + 1 ≠ w11.heap.size + 1 + 1 + 1 + 1 + 1 ∧ w11.heap.size ≤ w11.heap.size + 1 + 1 ∧ w11.heap.size ≤ w11.heap.size + 1 + 1 + 1 + 1 + 1 ∧ w11.heap.size + 1 + 1 < W.heap.size ∧ w11.heap.size + 1 + 1 + 1 + 1 + 1 < W.heap.size) := Lib.hid (by rw [q6]; omega)
  generalize w11.heap.size + 1 + 1 + 1 + 1 + 1 = vb at *
  generalize w11.heap.size + 1 + 1 + 1 + 1 = lb at *
  generalize w11.heap.size + 1 + 1 + 1 = rb at *
  generalize w11.heap.size + 1 + 1 = cb at *
  have EX : Hid (ExM W ex1 cb rb lb vb none 0) := Lib.hid ⟨q1, q2, q3, q4⟩
  have CW := Lib.hid (Z10.out.trans' q5)
  have CV := Lib.hid q5
  clear q1 q2 q3 q4 q5 q6
  have HBW := Lib.hid (Bnd.ch HB.out (CW.out) (by simp))
  have Q := Bp.Guarded_any W _ ex1 HBW.out EX.out.vm1 ex_vr1
  rw [ex_may, ex_by, ex_well] at Q
  change Calls _ _ #[.agg #[.slice (some ⟨cb, 0, none⟩) 2 2, .int .u8 2, .int .i64 0, .slice none 0 0, .slice none 0 0, .int .i64 0, .slice (some ⟨lb, 0, none⟩) 1 1]] _ (GdPost 2 _ _ _ _) at Q
  refine Q.mono ?_
  rintro e w13 ⟨c13, h13⟩
  rcases h13 with ⟨hf, _⟩ | ⟨_, m1, m2, rfl, g1, g2, g3, g4⟩
  · cases hf
  have A13 := Lib.hid c13
  have M1 := Lib.hid g1
  have M2 := Lib.hid g2
  have L1 := Lib.hid g3
  have L2 := Lib.hid g4
  clear Q g1 g2 g3 g4 c13
  obtain ⟨k0, k1, k2, k3, k4, k5, k6⟩ := (EX.out.ch A13.out).k
  change _ = some (Value.slice (some ⟨cb, 0, none⟩) 2 2) at k0
  change _ = some (Value.int .u8 2) at k1
  change _ = some (Value.int .i64 0) at k2
  change _ = some (Value.slice none 0 0) at k3
  change _ = some (Value.slice none 0 0) at k4
  change _ = some (Value.int .i64 0) at k5
  change _ = some (Value.slice (some ⟨lb, 0, none⟩) 1 1) at k6
  have Q := Bp.Holds_any w13 _ ex1 (Bnd.ch HBW.out A13.out (by simp)) (EX.out.ch A13.out).vm1 ex_vr1
  rw [ex_hb, ex_hi, ex_he] at Q
  change Calls _ _ #[.agg #[.slice (some ⟨cb, 0, none⟩) 2 2, .int .u8 2, .int .i64 0, .slice none 0 0, .slice none 0 0, .int .i64 0, .slice (some ⟨lb, 0, none⟩) 1 1]] _ _ at Q
  go_wp2_with fail
  refine Q.mono ?_
  rintro e w14 ⟨rfl, c14⟩
  have A14 := Lib.hid (A13.out.trans' c14)
  have G14 := Lib.hid c14
  clear Q c14 k0 k1 k2 k3 k4 k5 k6
  have EX14 := Lib.hid (EX.out.ch A14.out)
  have hc14 := EX14.out.c
  have F0 : Hid (∀ W', Ch [] w14 W' → (W'.cell? ⟨vb, 0, none⟩ = some (.slice (some ⟨cb, 0, none⟩) 2 2)) ∧ (W'.cell? ⟨cb, 4, none⟩ = some (.int .u8 1) ∧ W'.cell? ⟨cb, 5, none⟩ = some (.int .u8 2) ∧ W'.cell? ⟨cb, 6, none⟩ = some (.int .u64 8) ∧ W'.cell? ⟨cb, 7, none⟩ = some (.int .u64 5)) ∧ (W'.frozen? ⟨cb, 4, none⟩ = false ∧ W'.frozen? ⟨cb, 5, none⟩ = false ∧ W'.frozen? ⟨cb, 6, none⟩ = false ∧ W'.frozen? ⟨cb, 7, none⟩ = false)) := Lib.hid (fun W' h => by
    have hh := h.heap hc14 (by simp)
    exact ⟨(EX14.out.ch h).k.1, ⟨cell_at hh, cell_at hh, cell_at hh, cell_at hh⟩, free_at hh, free_at hh, free_at hh, free_at hh⟩)
  clear hc14
  obtain ⟨a0, ⟨a1, a2, a3, a4⟩, a5, a6, a7, a8⟩ := F0.out w14 (Ch.refl _ _)
  obtain ⟨b0, ⟨b1, b2, b3, b4⟩, b5, b6, b7, b8⟩ := F0.out w14.drew (Ch.refl _ _).drew
  obtain ⟨c0, ⟨c1, c2, c3, c4⟩, c5, c6, c7, c8⟩ := F0.out (w14.drew.alloc (.cells #[.int .u8 1, .int .u8 1, .int .u64 8, .int .u64 5] 58)) ((Ch.refl _ _).drew.alloc _)
  obtain ⟨d0, ⟨d1, d2, d3, d4⟩, d5, d6, d7, d8⟩ := F0.out (w14.alloc (.cells #[.int .u8 1, .int .u8 1, .int .u64 8, .int .u64 5] 58)).drew ((Ch.refl _ _).alloc _).drew
  obtain ⟨e0, ⟨e1, e2, e3, e4⟩, e5, e6, e7, e8⟩ := F0.out (w14.alloc (.cells #[.int .u8 1, .int .u8 1, .int .u64 8, .int .u64 5] 58)) ((Ch.refl _ _).alloc _)
  have W16 : Hid ((((((w14.alloc (.cells #[.int .u8 1, .int .u8 1, .int .u64 8, .int .u64 5] 58)).setCell ⟨cb, 4, none⟩ (.int .u8 1)).setCell ⟨cb, 5, none⟩ (.int .u8 1)).setCell ⟨cb, 6, none⟩ (.int .u64 8)).setCell ⟨cb, 7, none⟩ (.int .u64 5)).drew.heap[cb]? = some (.cells (flat ex2.cells).toArray 58 (0, 0)) ∧ (∀ k, k ≠ cb → k < w14.heap.size → (((((w14.alloc (.cells #[.int .u8 1, .int .u8 1, .int .u64 8, .int .u64 5] 58)).setCell ⟨cb, 4, none⟩ (.int .u8 1)).setCell ⟨cb, 5, none⟩ (.int .u8 1)).setCell ⟨cb, 6, none⟩ (.int .u64 8)).setCell ⟨cb, 7, none⟩ (.int .u64 5)).drew.heap[k]? = w14.heap[k]?) ∧ Ch [cb] w14 (((((w14.alloc (.cells #[.int .u8 1, .int .u8 1, .int .u64 8, .int .u64 5] 58)).setCell ⟨cb, 4, none⟩ (.int .u8 1)).setCell ⟨cb, 5, none⟩ (.int .u8 1)).setCell ⟨cb, 6, none⟩ (.int .u64 8)).setCell ⟨cb, 7, none⟩ (.int .u64 5)).drew) := Lib.hid (by
    have x0 := heap_old (o' := .cells #[.int .u8 1, .int .u8 1, .int .u64 8, .int .u64 5] 58) EX14.out.c
    have x1 := heap_set (i := 7) (heap_set (i := 6) (heap_set (i := 5) (heap_set (i := 4) x0 (.int .u8 1)) (.int .u8 1)) (.int .u64 8)) (.int .u64 5)
    have hc : Ch [cb] w14 (((((w14.alloc (.cells #[.int .u8 1, .int .u8 1, .int .u64 8, .int .u64 5] 58)).setCell ⟨cb, 4, none⟩ (.int .u8 1)).setCell ⟨cb, 5, none⟩ (.int .u8 1)).setCell ⟨cb, 6, none⟩ (.int .u64 8)).setCell ⟨cb, 7, none⟩ (.int .u64 5)).drew := ((((((Ch.refl _ _).alloc _).setCell _ _ (.inl (by simp))).setCell _ _ (.inl (by simp))).setCell _ _ (.inl (by simp))).setCell _ _ (.inl (by simp))).drew
    exact ⟨x1, fun k hk hl => hc.block k hl (by simpa using hk), hc⟩)
  go_wp2_with fail
  go_region_law (first | (go_simp; go_at_call 35; refine (pair_any _ _ _).mono ?_; rintro e w15 ⟨rfl, rfl⟩))
  all_goals
    generalize (((((w14.alloc (.cells #[.int .u8 1, .int .u8 1, .int .u64 8, .int .u64 5] 58)).setCell ⟨cb, 4, none⟩ (.int .u8 1)).setCell ⟨cb, 5, none⟩ (.int .u8 1)).setCell ⟨cb, 6, none⟩ (.int .u64 8)).setCell ⟨cb, 7, none⟩ (.int .u64 5)).drew = w16 at *
    obtain ⟨y1, y2, y3⟩ := W16.out
    have hn := hn1.out
    have s14 := A14.out.size
    have r16 := (y2 rb (Ne.symm hn.1) (lt_of EX14.out.r)).trans EX14.out.r
    have l16 := (y2 lb (Ne.symm hn.2.1) (lt_of EX14.out.l)).trans EX14.out.l
    have v16 := (y2 vb (Ne.symm hn.2.2.1) (lt_of EX14.out.v)).trans EX14.out.v
    have C16 := Lib.hid y1
    have R16 := Lib.hid r16
    have L16 := Lib.hid l16
    have V16 := Lib.hid v16
    have HC16 := Lib.hid y3
    have s16 := y3.size
    have HS16 := Lib.hid s16
    have HS14 := Lib.hid s14
    have HN := Lib.hid hn
    have vg := v16
    unfold VA.arr exA at vg
    have ff := (Ch.refl [] w16).alloc (.cells #[.int .i64 1] 3) |>.heap vg (by simp)
    have f3 := cell_at (i := 3) ff
    have f3' := free_at (i := 3) ff
    change _ = some (Value.slice none 0 0) at f3
    have hv17 := heap_set (i := 3) ff (.slice (some ⟨w16.heap.size, 0, none⟩) 1 1)
    have hg17 : ((w16.alloc (.cells #[.int .i64 1] 3)).setCell ⟨vb, 3, none⟩ (.slice (some ⟨w16.heap.size, 0, none⟩) 1 1)).heap[w16.heap.size]? = some (.cells (ints .i64 [1]).toArray 3 (0, 0)) := (heap_set_ne (by have := lt_of v16; omega)).trans (heap_new w16 _)
    have M17 : ExM ((w16.alloc (.cells #[.int .i64 1] 3)).setCell ⟨vb, 3, none⟩ (.slice (some ⟨w16.heap.size, 0, none⟩) 1 1)) ex2 cb rb lb vb (some ⟨w16.heap.size, 0, none⟩) 1 := ⟨(heap_set_ne hn.2.2.1).trans (heap_old y1), (heap_set_ne hn.2.2.2.1).trans (heap_old r16), (heap_set_ne hn.2.2.2.2.1).trans (heap_old l16), hv17⟩
    have X17 : Ch [vb] w16 ((w16.alloc (.cells #[.int .i64 1] 3)).setCell ⟨vb, 3, none⟩ (.slice (some ⟨w16.heap.size, 0, none⟩) 1 1)) := ((Ch.refl _ _).alloc _).setCell _ _ (.inl (by simp))
    clear y1 y2 y3 r16 l16 v16 vg ff hn s14 s16 hv17 a0 a1 a2 a3 a4 a5 a6 a7 a8 b0 b1 b2 b3 b4 b5 b6 b7 b8 c0 c1 c2 c3 c4 c5 c6 c7 c8 d0 d1 d2 d3 d4 d5 d6 d7 d8 e0 e1 e2 e3 e4 e5 e6 e7 e8 W16 F0 C16 R16 L16 V16
    have HM17 := Lib.hid M17
    have HG17 := Lib.hid hg17
    have HX17 := Lib.hid X17
    clear M17 hg17 X17
    obtain ⟨k0, k1, k2, k3, k4, k5, k6⟩ := HM17.out.k
    change _ = some (Value.slice (some ⟨cb, 0, none⟩) 2 2) at k0
    change _ = some (Value.int .u8 2) at k1
    change _ = some (Value.int .i64 0) at k2
    change _ = some (Value.slice (some ⟨w16.heap.size, 0, none⟩) 1 1) at k3
    change _ = some (Value.slice none 0 0) at k4
    change _ = some (Value.int .i64 0) at k5
    change _ = some (Value.slice (some ⟨lb, 0, none⟩) 1 1) at k6
    go_wp2_with fail
    have hsz : Hid (W.heap.size ≤ w16.heap.size) := Lib.hid (Nat.le_trans HS14.out HS16.out)
    generalize (w16.alloc (.cells #[.int .i64 1] 3)).setCell ⟨vb, 3, none⟩ (.slice (some ⟨w16.heap.size, 0, none⟩) 1 1) = w17 at *
    generalize w16.heap.size = gb at *
    have A17 : Hid (Ch [] w11 w17) := Lib.hid (by
      refine ((CV.out.trans' A14.out).trans HC16.out (fun q hq => .inr ?_)).trans HX17.out (fun q hq => .inr ?_)
      · simp at hq; subst hq; exact HN.out.2.2.2.2.2.1
      · simp at hq; subst hq; exact HN.out.2.2.2.2.2.2.1)
    have B17 : Hid (Ch [cb, vb] w13 w17) := Lib.hid (((G14.out.mono (by simp)).trans' (HC16.out.mono (by simp))).trans' (HX17.out.mono (by simp)))
    have Q := Bp.Holds_any w17 _ ex2 (Bnd.ch HB.out (Z10.out.trans' A17.out) (by simp)) (HM17.out.vm2 HG17.out) ex_vr2
    rw [ex_hb2, ex_hi2, ex_he2] at Q
    change Calls _ _ #[.agg #[.slice (some ⟨cb, 0, none⟩) 2 2, .int .u8 2, .int .i64 0, .slice (some ⟨gb, 0, none⟩) 1 1, .slice none 0 0, .int .i64 0, .slice (some ⟨lb, 0, none⟩) 1 1]] _ _ at Q
    refine Q.mono ?_
    rintro e w18 ⟨rfl, c18⟩
    have A18 := Lib.hid (A17.out.trans' c18)
    have N1 : Hid (w18.heap[m1]? = some (.cells (bools [true, false]).toArray 4 (0, 0))) := Lib.hid ((B17.out.trans0 c18).heap M1.out (by have := L1.out; have := HN.out.2.2.2.2.2.2.2; simp; omega))
    have N2 : Hid (w18.heap[m2]? = some (.cells (bools [false, false]).toArray 4 (0, 0))) := Lib.hid ((B17.out.trans0 c18).heap M2.out (by have := L2.out; have := HN.out.2.2.2.2.2.2.2; simp; omega))
    clear Q c18 k0 k1 k2 k3 k4 k5 k6 f3 f3' B17 A17 HC16 HX17 HM17 HG17 EX EX14 G14 A14 A13
    have D1 := Lib.hid ((Ch.refl [] w18).alloc (.cells #[.bool true, .bool false] 4))
    have Q := SameBools_any (w18.alloc (.cells #[.bool true, .bool false] 4)) (some ⟨m1, 0, none⟩) (some ⟨w18.heap.size, 0, none⟩) 2 2 2 2 [true, false] [true, false] (by omega) (by unfold maxLen; omega) (by omega) (by unfold maxLen; omega) (rd_block (D1.out.heap N1.out (by simp)) 2 rfl).rd ⟨rfl, .inr ⟨w18.heap.size, 0, rfl, fun j hj => by rw [cell_at (heap_new w18 _)]; simp [bools]⟩⟩
    rw [show decide ([true, false] = [true, false]) = true from rfl] at Q
    go_wp2_with fail
    refine Q.mono ?_
    rintro e w19 ⟨rfl, d, rfl⟩
    clear Q
    have D2 := Lib.hid (D1.out.drewN d)
    generalize (w18.alloc (.cells #[.bool true, .bool false] 4)).drewN d = w19 at *
    have D3 := Lib.hid (D2.out.alloc (.cells #[.bool false, .bool false] 4))
    have Q := SameBools_any (w19.alloc (.cells #[.bool false, .bool false] 4)) (some ⟨m2, 0, none⟩) (some ⟨w19.heap.size, 0, none⟩) 2 2 2 2 [false, false] [false, false] (by omega) (by unfold maxLen; omega) (by omega) (by unfold maxLen; omega) (rd_block (D3.out.heap N2.out (by simp)) 2 rfl).rd ⟨rfl, .inr ⟨w19.heap.size, 0, rfl, fun j hj => by rw [cell_at (heap_new w19 _)]; simp [bools]⟩⟩
    rw [show decide ([false, false] = [false, false]) = true from rfl] at Q
    go_wp2_with fail
    refine Q.mono ?_
    rintro e w20 ⟨rfl, d, rfl⟩
    clear Q
    have D4 := Lib.hid (Z10.out.trans' (A18.out.trans' (D3.out.drewN d)))
    generalize (w19.alloc (.cells #[.bool false, .bool false] 4)).drewN d = w20 at *
    clear D1 D2 D3 N1 N2 A18
    go_wp2_with fail
    go_ret
    exact ⟨rfl, D4.out⟩
end Go.Proofs.YtlhhcocdhkbdnaaDoor.L13
