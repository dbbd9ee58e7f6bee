/-
  THE WALKS of barrier.guarded, Guarded.
-/
import Derived.Test.YtlhhcocdhkbdnaaDoorQSrcB
set_option linter.unusedVariables false
set_option linter.unusedSimpArgs false
set_option maxRecDepth 100000
namespace Go.Proofs.YtlhhcocdhkbdnaaDoor.Bp
open Go.RowKit Go.Proofs.YtlhhcocdhkbdnaaDoor.Wd Go.Proofs.YtlhhcocdhkbdnaaDoor.Hp Go.Proofs.YtlhhcocdhkbdnaaDoor.Gp Go.Proofs.YtlhhcocdhkbdnaaDoor.Sm Go.Proofs.YtlhhcocdhkbdnaaDoor.Gr
def byL (v : Vw) : List Bool := walkF v.cells whiteC (srcL v (fun _ => true))
def wellL (v : Vw) : List Bool := walkF v.cells whiteC (srcL v Ln.en)
theorem VOk.cellWords {v : Vw} (hk : VOk v) (d : Nat) (hd : d < v.cells.length) (hn : (v.cells.getD d z).k ≠ 0) (x : Int) (hx : x = (v.cells.getD d z).a ∨ x = (v.cells.getD d z).b) : isWord x v.cells.length = true := by
  have := hk.cells (v.cells.getD d z) (by rw [show v.cells.getD d z = v.cells[d] by simp [List.getD, hd]]; exact List.getElem_mem hd)
  unfold cellOk rightW at this
  simp only [Bool.and_eq_true, Bool.or_eq_true, beq_iff_eq, List.all_cons, List.all_nil] at this
  have h2 := this.2.2.resolve_left hn
  rcases hx with rfl | rfl
  · exact h2.1
  · exact h2.2.1
theorem greyC_k {h : List Cel} {c : Int} (hc : greyC h c = true) : 0 ≤ c ∧ c.toNat < h.length ∧ (h.getD c.toNat z).k ≠ 0 ∧ (h.getD c.toNat z).c = 1 := by
  unfold greyC isGrey at hc
  simp only [Bool.and_eq_true, decide_eq_true_eq, bne_iff_ne, beq_iff_eq] at hc
  exact ⟨hc.1, by omega, hc.2.2⟩
theorem VOk.srcWords {v : Vw} (hk : VOk v) (cnt : Ln → Bool) : ∀ x ∈ srcL v cnt, isWord x v.cells.length = true := by
  intro x hx
  unfold srcL src2 src1 at hx
  rw [List.mem_append, List.mem_append, List.mem_flatMap, List.mem_flatMap] at hx
  rcases hx with (hx | ⟨c, hc, hx⟩) | ⟨l, hl, hx⟩
  · exact hk.globals x (List.mem_of_mem_drop hx)
  · have hg := greyC_k (hk.grey c (List.mem_of_mem_take hc))
    unfold cw at hx
    refine hk.cellWords c.toNat hg.2.1 hg.2.2.1 x ?_
    simpa using hx
  · unfold lr at hx
    split at hx
    · exact hk.roots l (List.mem_of_mem_take hl) x hx
    · cases hx
theorem isWord_u {x : Int} {n : Nat} (h : Gp.u64 x) : Gp.u64 x := h
theorem VR.srcU {v : Vw} (hr : VR v) (hk : VOk v) (cnt : Ln → Bool) : ∀ x ∈ srcL v cnt, Gp.u64 x := by
  intro x hx
  unfold srcL src2 src1 at hx
  rw [List.mem_append, List.mem_append, List.mem_flatMap, List.mem_flatMap] at hx
  rcases hx with (hx | ⟨c, hc, hx⟩) | ⟨l, hl, hx⟩
  · exact hr.globals x (List.mem_of_mem_drop hx)
  · have hg := greyC_k (hk.grey c (List.mem_of_mem_take hc))
    obtain ⟨_, _, _, _, h5, h6⟩ := InR.at hr.cells c.toNat hg.2.1
    unfold cw at hx
    simp at hx
    rcases hx with rfl | rfl
    · simpa using h5
    · simpa using h6
  · unfold lr at hx
    split at hx
    · exact hr.roots l (List.mem_of_mem_take hl) x hx
    · cases hx
theorem VOk.wok {v : Vw} (hk : VOk v) (cnt : Cel → Bool) (hc : ∀ x, cnt x = true → x.k ≠ 0) (src : List Int) (hs : ∀ x ∈ src, isWord x v.cells.length = true) : WOk v.cells cnt src :=
  ⟨fun x hx hr => isWord_ok (hs x hx) hr, fun d hd hcd x hx hr => isWord_ok (hk.cellWords d hd (hc _ hcd) x hx) hr⟩
theorem whiteC_k (x : Cel) (h : whiteC x = true) : x.k ≠ 0 := by unfold whiteC at h; simp at h; exact h.1
theorem nofree_k (x : Cel) (h : nofree x = true) : x.k ≠ 0 := by unfold nofree at h; simpa using h
/-- What guarded answers. -/
def GPost (n : Nat) (b1 b2 : List Bool) (w : World) (en : Ending) (w' : World) : Prop :=
  ∃ m1 m2 : Nat, en = .returned (.tuple #[.slice (some ⟨m1, 0, none⟩) n n, .slice (some ⟨m2, 0, none⟩) n n]) ∧ w'.heap[m1]? = some (.cells (bv b1).toArray 4 (0, 0)) ∧ w'.heap[m2]? = some (.cells (bv b2).toArray 4 (0, 0)) ∧ Ch [] w w' ∧ w.heap.size ≤ m1 ∧ w.heap.size ≤ m2 ∧ m1 ≠ m2
set_option maxHeartbeats 4000000 in
theorem guarded_any (w : World) (a : VA) (v : Vw) (hb : Bnd w) (hv : VM w a v) (hr : VR v) (hk : VOk v) :
    Calls Tryd.prog 68 #[.agg (a.arr v)] w (GPost v.cells.length (byL v) (wellL v) w) := by
  obtain ⟨W, hW⟩ : ∃ W, W = w.alloc (.cells (a.arr v) 65) := ⟨_, rfl⟩
  have C0 : Ch [] w W := by rw [hW]; exact (Ch.refl _ _).alloc _
  have hbx : W.heap[w.heap.size]? = some (.cells (a.arr v) 65 (0, 0)) := by rw [hW]; exact heap_new w _
  have HBX := Lib.hid hbx
  have KX : Hid (∀ w1 : World, Ch [] W w1 → w1.cell? ⟨w.heap.size, 0, none⟩ = some (.slice a.ac v.cells.length a.cc) ∧ w1.cell? ⟨w.heap.size, 1, none⟩ = some (.int .u8 v.ph) ∧ w1.cell? ⟨w.heap.size, 2, none⟩ = some (.int .i64 v.sw) ∧ w1.cell? ⟨w.heap.size, 3, none⟩ = some (.slice a.ag v.grey.length a.cg) ∧ w1.cell? ⟨w.heap.size, 4, none⟩ = some (.slice a.agl v.globals.length a.cgl) ∧ w1.cell? ⟨w.heap.size, 5, none⟩ = some (.int .i64 v.laid) ∧ w1.cell? ⟨w.heap.size, 6, none⟩ = some (.slice a.al v.lanes.length a.cl)) := Lib.hid (fun w1 h1 => by
    have hh := h1.heap HBX.out (by simp)
    unfold VA.arr at hh
    exact ⟨cell_at hh, cell_at hh, cell_at hh, cell_at hh, cell_at hh, cell_at hh, cell_at hh⟩)
  have n1 := hr.n1
  have n2 := hr.n2
  have n3 := hr.n3
  have n5 := hr.n5
  have HS1 : Hid (∀ w', Ch [] W w' → Calls Tryd.prog 91 #[.agg (a.arr v), .func (.func 92) #[] #[]] w' (Mk1 24 (ints .u64 (srcL v (fun _ => true))) (srcL v (fun _ => true)).length w')) := Lib.hid (fun w' hc => srcA_any w' a v (hv.ch (C0.trans' hc)) hr hk)
  have HS2 : Hid (∀ w', Ch [] W w' → Calls Tryd.prog 91 #[.agg (a.arr v), .func (.func 93) #[] #[]] w' (Mk1 24 (ints .u64 (srcL v Ln.en)) (srcL v Ln.en).length w')) := Lib.hid (fun w' hc => srcE_any w' a v (hv.ch (C0.trans' hc)) hr hk)
  have HW1 : Hid (∀ w' ao cap, Ch [] W w' → Rd w' ao (srcL v (fun _ => true)).length (ints .u64 (srcL v (fun _ => true))) → Calls Tryd.prog 70 #[.agg (a.arr v), .slice ao (srcL v (fun _ => true)).length cap, .func (.func 74) #[] #[]] w' (WalkPost v.cells.length (byL v) w')) := Lib.hid (fun w' ao cap hc hrd =>
    walkW_any w' a v ao _ cap (srcL v (fun _ => true)) (by have := src2_len v (fun _ => true) v.lanes.length; unfold srcL; omega) (hv.ch (C0.trans' hc)) hr ⟨hrd.1, hrd.2.imp id fun ⟨b, off, h1, h2⟩ => ⟨b, off, h1, by simp, h2⟩⟩ (hr.srcU hk _) (hk.wok _ whiteC_k _ (hk.srcWords _)) (Bnd.ch hb (C0.trans' hc) (by simp)))
  have HW2 : Hid (∀ w' ao cap, Ch [] W w' → Rd w' ao (srcL v Ln.en).length (ints .u64 (srcL v Ln.en)) → Calls Tryd.prog 70 #[.agg (a.arr v), .slice ao (srcL v Ln.en).length cap, .func (.func 74) #[] #[]] w' (WalkPost v.cells.length (wellL v) w')) := Lib.hid (fun w' ao cap hc hrd =>
    walkW_any w' a v ao _ cap (srcL v Ln.en) (by have := src2_len v Ln.en v.lanes.length; unfold srcL; omega) (hv.ch (C0.trans' hc)) hr ⟨hrd.1, hrd.2.imp id fun ⟨b, off, h1, h2⟩ => ⟨b, off, h1, by simp, h2⟩⟩ (hr.srcU hk _) (hk.wok _ whiteC_k _ (hk.srcWords _)) (Bnd.ch hb (C0.trans' hc) (by simp)))
  have HC0 := Lib.hid C0
  have HCR := Lib.hid (Ch.refl [] W)
  unfold VA.arr at hW HS1 HS2 HW1 HW2 ⊢
  unfold Mk1 at HS1 HS2
  unfold WalkPost at HW1 HW2
  obtain ⟨R, hR⟩ : ∃ R, R = GPost v.cells.length (byL v) (wellL v) w := ⟨_, rfl⟩
  have HRR := Lib.hid hR
  rw [← hR]
  clear hv hr hk hb hbx C0 hR n1 n2 n3 n5
  generalize hq1 : (srcL v (fun _ => true)).length = l1 at *
  generalize hq2 : (srcL v Ln.en).length = l2 at *
  generalize ints .u64 (srcL v (fun _ => true)) = s1 at *
  generalize ints .u64 (srcL v Ln.en) = s2 at *
  clear hq1 hq2
  generalize v.globals.length = ng at *
  generalize v.grey.length = gl at *
  generalize v.lanes.length = nl at *
  generalize v.cells.length = n at *
  go_enter Tryd.func68, Tryd.ntmps68
  obtain ⟨k0, k1, k2, k3, k4, k5, k6⟩ := KX.out W (Ch.refl _ _)
  go_wp2_with fail
  rw [← hW]
  have HWW := Lib.hid hW
  clear hW
  go_region_held3 (fun w' => w'.cell? ⟨w.heap.size, 0, none⟩ = some (.slice a.ac n a.cc) ∧ w'.cell? ⟨w.heap.size, 1, none⟩ = some (.int .u8 v.ph) ∧ w'.cell? ⟨w.heap.size, 2, none⟩ = some (.int .i64 v.sw) ∧ w'.cell? ⟨w.heap.size, 3, none⟩ = some (.slice a.ag gl a.cg) ∧ w'.cell? ⟨w.heap.size, 4, none⟩ = some (.slice a.agl ng a.cgl) ∧ w'.cell? ⟨w.heap.size, 5, none⟩ = some (.int .i64 v.laid) ∧ w'.cell? ⟨w.heap.size, 6, none⟩ = some (.slice a.al nl a.cl))
    (refine KX.out _ ?_ <;> repeat (first | exact HCR.out | exact HC3.out | exact HC4.out | apply Ch.drew))
    (first | (go_at_call 91; refine (HS1.out _ (by repeat (first | exact HCR.out | apply Ch.drew))).mono ?_; rintro e w3 ⟨v3, q3, rfl, g1, g2, g3⟩; obtain ⟨a3, c3, rfl, _, _, r3⟩ := g1.rd; have HC3 : Hid (Ch [] W w3) := Lib.hid (Ch.trans' (by repeat (first | exact HCR.out | apply Ch.drew)) g2); have HR3 := Lib.hid r3; clear g1 g2 g3 r3) | (go_at_call 70; refine (HW1.out _ a3 c3 (by repeat (first | exact HC3.out | apply Ch.drew)) (by have := HR3.out; rwa [Nat.mul_one] at this)).mono ?_; rintro e w4 ⟨mb, rfl, g1, g2, g3⟩; have HC4 : Hid (Ch [] W w4) := Lib.hid (HC3.out.trans' g2); have HM4 := Lib.hid g1; have HL4 : Hid (W.heap.size ≤ mb) := Lib.hid (Nat.le_trans HC3.out.size g3); clear g1 g2 g3))
  clear k0 k1 k2 k3 k4 k5 k6
  obtain ⟨k0, k1, k2, k3, k4, k5, k6⟩ := KX.out w4 HC4.out
  clear HS1 HW1
  go_wp2_with fail
  go_region_held3 (fun w' => w'.cell? ⟨w.heap.size, 0, none⟩ = some (.slice a.ac n a.cc) ∧ w'.cell? ⟨w.heap.size, 1, none⟩ = some (.int .u8 v.ph) ∧ w'.cell? ⟨w.heap.size, 2, none⟩ = some (.int .i64 v.sw) ∧ w'.cell? ⟨w.heap.size, 3, none⟩ = some (.slice a.ag gl a.cg) ∧ w'.cell? ⟨w.heap.size, 4, none⟩ = some (.slice a.agl ng a.cgl) ∧ w'.cell? ⟨w.heap.size, 5, none⟩ = some (.int .i64 v.laid) ∧ w'.cell? ⟨w.heap.size, 6, none⟩ = some (.slice a.al nl a.cl))
    (refine KX.out _ ?_ <;> repeat (first | exact HC4.out | exact HC5.out | exact HC6.out | apply Ch.drew))
    (first | (go_at_call 91; refine (HS2.out _ (by repeat (first | exact HC4.out | apply Ch.drew))).mono ?_; rintro e w5 ⟨v5, q5, rfl, g1, g2, g3⟩; obtain ⟨a5, c5, rfl, _, _, r5⟩ := g1.rd; have HC5 : Hid (Ch [] W w5) := Lib.hid (Ch.trans' (by repeat (first | exact HC4.out | apply Ch.drew)) g2); have HX5 : Hid (Ch [] w4 w5) := Lib.hid (Ch.trans' (by repeat (first | exact Ch.refl _ _ | apply Ch.drew)) g2); have HR5 := Lib.hid r5; clear g1 g2 g3 r5) | (go_at_call 70; refine (HW2.out _ a5 c5 (by repeat (first | exact HC5.out | apply Ch.drew)) (by have := HR5.out; rwa [Nat.mul_one] at this)).mono ?_; rintro e w6 ⟨mc, rfl, g1, g2, g3⟩; have HC6 : Hid (Ch [] W w6) := Lib.hid (HC5.out.trans' g2); have HX6 : Hid (Ch [] w4 w6) := Lib.hid (HX5.out.trans' g2); have HM6 := Lib.hid g1; have HL6 : Hid (W.heap.size ≤ mc) := Lib.hid (Nat.le_trans HC5.out.size g3); have HL7 : Hid (w4.heap.size ≤ mc) := Lib.hid (Nat.le_trans HX5.out.size g3); clear g1 g2 g3))
  have Z : Hid (GPost n (byL v) (wellL v) w (.returned (.tuple #[.slice (some ⟨mb, 0, none⟩) n n, .slice (some ⟨mc, 0, none⟩) n n])) w6) := Lib.hid ⟨mb, mc, rfl, HX6.out.heap HM4.out (by simp), HM6.out, HC0.out.trans' HC6.out, Nat.le_trans HC0.out.size HL4.out, Nat.le_trans HC0.out.size HL6.out, fun e => by have h1 := lt_of HM4.out; have h2 := HL7.out; omega⟩
  clear k0 k1 k2 k3 k4 k5 k6
  go_wp2_with fail
  rw [HRR.out]
  exact Z.out
/-- What Guarded answers. -/
def GdPost (n : Nat) (mm : Bool) (b1 b2 : List Bool) (w : World) (e : Ending) (w' : World) : Prop :=
  Ch [] w w' ∧ ((mm = false ∧ e = .returned (.tuple #[.slice none 0 0, .slice none 0 0, .int .i64 130])) ∨ (mm = true ∧ ∃ m1 m2 : Nat, e = .returned (.tuple #[.slice (some ⟨m1, 0, none⟩) n n, .slice (some ⟨m2, 0, none⟩) n n, .int .i64 0]) ∧ w'.heap[m1]? = some (.cells (bv b1).toArray 4 (0, 0)) ∧ w'.heap[m2]? = some (.cells (bv b2).toArray 4 (0, 0)) ∧ w.heap.size ≤ m1 ∧ w.heap.size ≤ m2 ∧ m1 ≠ m2))
set_option maxHeartbeats 1000000 in
theorem Guarded_any (w : World) (a : VA) (v : Vw) (hb : Bnd w) (hv : VM w a v) (hr : VR v) :
    Calls Tryd.prog 27 #[.agg (a.arr v)] w (GdPost v.cells.length (mayV v) (byL v) (wellL v) w) := by
  obtain ⟨W, hW⟩ : ∃ W, W = w.alloc (.cells (a.arr v) 65) := ⟨_, rfl⟩
  have C0 : Ch [] w W := by rw [hW]; exact (Ch.refl _ _).alloc _
  have hbx : W.heap[w.heap.size]? = some (.cells (a.arr v) 65 (0, 0)) := by rw [hW]; exact heap_new w _
  have HBX := Lib.hid hbx
  have KX : Hid (∀ w1 : World, Ch [] W w1 → w1.cell? ⟨w.heap.size, 0, none⟩ = some (.slice a.ac v.cells.length a.cc) ∧ w1.cell? ⟨w.heap.size, 1, none⟩ = some (.int .u8 v.ph) ∧ w1.cell? ⟨w.heap.size, 2, none⟩ = some (.int .i64 v.sw) ∧ w1.cell? ⟨w.heap.size, 3, none⟩ = some (.slice a.ag v.grey.length a.cg) ∧ w1.cell? ⟨w.heap.size, 4, none⟩ = some (.slice a.agl v.globals.length a.cgl) ∧ w1.cell? ⟨w.heap.size, 5, none⟩ = some (.int .i64 v.laid) ∧ w1.cell? ⟨w.heap.size, 6, none⟩ = some (.slice a.al v.lanes.length a.cl)) := Lib.hid (fun w1 h1 => by
    have hh := h1.heap HBX.out (by simp)
    unfold VA.arr at hh
    exact ⟨cell_at hh, cell_at hh, cell_at hh, cell_at hh, cell_at hh, cell_at hh, cell_at hh⟩)
  have M := mayV_any W a v (Bnd.ch hb C0 (by simp)) (hv.ch C0) hr
  have HG := Lib.hid (fun (w1 : World) (h1 : Ch [] W w1) (hm : mayV v = true) => guarded_any w1 a v (Bnd.ch hb (C0.trans' h1) (by simp)) (hv.ch (C0.trans' h1)) hr (mayV_ok hm))
  have HC0 := Lib.hid C0
  unfold VA.arr at hW M HG ⊢
  unfold GPost at HG
  obtain ⟨k0, k1, k2, k3, k4, k5, k6⟩ := KX.out W (Ch.refl _ _)
  clear hv hr hb hbx C0
  generalize hmm : mayV v = mm at *
  clear hmm
  generalize v.globals.length = ng at *
  generalize v.grey.length = gl at *
  generalize v.lanes.length = nl at *
  generalize v.cells.length = n at *
  have HRR : Hid (∀ e w', GdPost n mm (byL v) (wellL v) w e w' → GdPost n mm (byL v) (wellL v) w e w') := Lib.hid (fun _ _ h => h)
  generalize hR : GdPost n mm (byL v) (wellL v) w = R at *
  have HRE := Lib.hid hR
  clear hR HRR
  cases mm
  · go_enter Tryd.func27, Tryd.ntmps27
    go_wp2_with fail
    rw [← hW]
    refine M.mono ?_
    rintro e w2 ⟨rfl, h2⟩
    clear hW k0 k1 k2 k3 k4 k5 k6
    go_wp2_with fail
    go_ret3
    rw [← HRE.out]
    exact ⟨HC0.out.trans' h2, .inl ⟨rfl, rfl⟩⟩
  · go_enter Tryd.func27, Tryd.ntmps27
    go_wp2_with fail
    rw [← hW]
    refine M.mono ?_
    rintro e w2 ⟨rfl, h2⟩
    have H2 := Lib.hid h2
    clear hW k0 k1 k2 k3 k4 k5 k6 M
    obtain ⟨k0, k1, k2, k3, k4, k5, k6⟩ := KX.out w2 h2
    have G := HG.out w2 h2 (by first | rfl | trivial)
    clear h2
    go_wp2_with fail
    refine G.mono ?_
    rintro e w3 ⟨m1, m2, rfl, g1, g2, g3, g4, g5⟩
    have Z : Hid (R (.returned (.tuple #[.slice (some ⟨m1, 0, none⟩) n n, .slice (some ⟨m2, 0, none⟩) n n, .int .i64 0])) w3) := Lib.hid (by
      rw [← HRE.out]
      have s1 := HC0.out.size
      have s2 := H2.out.size
      exact ⟨HC0.out.trans' (H2.out.trans' g3), .inr ⟨rfl, m1, m2, rfl, g1, g2, by omega, by omega, g5.2⟩⟩)
    clear G g1 g2 g3 g4 g5 k0 k1 k2 k3 k4 k5 k6
    go_wp2_with fail
    go_ret3
    exact Z.out
end Go.Proofs.YtlhhcocdhkbdnaaDoor.Bp
