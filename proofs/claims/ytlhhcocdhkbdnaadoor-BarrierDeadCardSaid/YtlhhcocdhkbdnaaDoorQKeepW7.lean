/-
  THE WALKS of BarrierKeeps, on: a lane's steps (lay, end).
-/
import Derived.Test.YtlhhcocdhkbdnaaDoorQKeepW6
set_option linter.unusedVariables false
set_option linter.unusedSimpArgs false
set_option maxRecDepth 100000
namespace Go.Proofs.YtlhhcocdhkbdnaaDoor.Kp
open Go.RowKit Go.Proofs.YtlhhcocdhkbdnaaDoor.Wd Go.Proofs.YtlhhcocdhkbdnaaDoor.Hp Go.Proofs.YtlhhcocdhkbdnaaDoor.Gp Go.Proofs.YtlhhcocdhkbdnaaDoor.Sm Go.Proofs.YtlhhcocdhkbdnaaDoor.Gr Go.Proofs.YtlhhcocdhkbdnaaDoor.Bp Go.Proofs.YtlhhcocdhkbdnaaDoor.Own
set_option maxHeartbeats 8000000 in
theorem lane4 {w0 w : World} {O : Nat → Nat} {wp : Nat} {a : VA} {v : Vw} (h : WM w0 w O wp a v) (gv : GV v) (hb : Bnd w0) {j : Nat} (hj : j < v.lanes.length) (hen : (v.lanes.getD j ln0).en = false) {q off : Nat} (hal : a.al = some ⟨q, off, none⟩) (s : S5) (hs : SI s) (hk : s.kd = 4) :
    Calls Tryd.prog 79 #[.pointer (some ⟨wp, 0, none⟩), .agg (stA s), .pointer (some ⟨q, off + j * 3, none⟩)] w fun e w' => e = .returned (.bool true) ∧ MW w0 w O w' wp a (laneS v j s) := by
  obtain ⟨W, hW⟩ : ∃ W, W = w.alloc (.cells (stA s) 86) := ⟨_, rfl⟩
  have hal1 : Ch [] w W := by rw [hW]; exact (Ch.refl _ _).alloc _
  have H1 := Lib.hid (h.chs hal1)
  have HU1 := Lib.hid (Un.ch (O := O) hal1)
  obtain ⟨bo, hbo⟩ : ∃ bo, bo = w.heap.size := ⟨_, rfl⟩
  have HZ0 : Hid (O bo = 0) := Lib.hid (by rw [hbo]; exact h.fresh (Nat.le_refl _))
  have HBZ : Hid (W.heap[bo]? = some (.cells (stA s) 86 (0, 0))) := Lib.hid (by rw [hbo, hW]; exact heap_new w _)
  have HBO := Lib.hid hbo
  have HG := Lib.hid gv
  have HJ := Lib.hid hj
  have HAL := Lib.hid hal
  have HB := Lib.hid hb
  have HSI := Lib.hid hs
  have HEN := Lib.hid hen
  obtain ⟨V', hV'⟩ : ∃ V', V' = laneS v j s := ⟨_, rfl⟩
  rw [← hV']
  have HVV : Hid (V' = layV v j s) := Lib.hid (by rw [hV']; unfold laneS; rw [if_neg (by rw [hk]; decide), if_neg (by rw [hk]; decide), if_neg (by rw [hk]; decide), if_pos hk])
  have hrn := gv.nr _ (getD_memD ln0 hj)
  have n1 : (s.kd == 1) = false := by rw [hk]; rfl
  have n2 : (s.kd == 2) = false := by rw [hk]; rfl
  have n3 : (s.kd == 3) = false := by rw [hk]; rfl
  have n4 : (s.kd == 4) = true := by rw [hk]; rfl
  clear hk
  have c4 : W.cell? ⟨wp, 4, none⟩ = some (.slice a.agl v.globals.length a.cgl) := H1.out.wpc 4
  by_cases h0 : 0 < v.globals.length
  · have HV2 : Hid (V' = setG (shadeV v (storeL v.ph (v.lanes.getD j ln0).sc (v.globals.getD (pickN s.a v.globals.length) 0) (valK (v.lanes.getD j ln0) s.c) v.cells)) (pickN s.a v.globals.length) (valK (v.lanes.getD j ln0) s.c)) := Lib.hid (by rw [HVV.out]; unfold layV; rw [if_pos h0])
    have P := pick_any W.drew s.a v.globals.length hs.a h0 (by have := gv.ng; omega)
    have hp := pick_lt s.a h0
    have HPL := Lib.hid hp
    obtain ⟨qg, og, hag, _⟩ := H1.out.glob hp
    have HAG := Lib.hid hag
    rw [hag] at c4
    have HX := Lib.hid (gv.val hj s.c)
    have HUG : Hid (Gp.u64 (v.globals.getD (pickN s.a v.globals.length) 0)) := Lib.hid (gv.ug _ (getD_memD 0 hp))
    have HS := Lib.hid (store_sok v (v.lanes.getD j ln0).sc (v.globals.getD (pickN s.a v.globals.length) 0) (valK (v.lanes.getD j ln0) s.c))
    have hsl := storeL_len v.ph (v.lanes.getD j ln0).sc (v.globals.getD (pickN s.a v.globals.length) 0) (valK (v.lanes.getD j ln0) s.c) v.cells
    have ltP : ((pickN s.a v.globals.length : Nat) : Int) < v.globals.length := by omega
    have lt0 : (0 : Int) < v.globals.length := by omega
    have HCL := Lib.hid gv.nc
    clear hag hp h0
    unfold stA
    unfold stA at hW
    clear h gv hj hal hs hal1 hbo hb hV' hen
    go_enter Tryd.func79, Tryd.ntmps79
    go_upto_region 1 with fail
    rw [← hW, ← HBO.out]
    clear hW
    obtain ⟨b0, b1, b2, b3, b4⟩ := st_box HBZ.out
    go_wp2_with fail
    refine wp_region_still_tail 9 (by kernel_rfl) (by kernel_rfl) ?_
    simp only [List.take_succ_cons, List.take_zero, List.drop_succ_cons, List.drop_zero]
    (iterate 8 still_step)
    still_call P
    refine wpStill_nil ?_
    change wpList _ _ _ _ _ W.drew
    have H2 := Lib.hid (H1.out.chs ((Ch.refl [] W).drew))
    have HU2 := Lib.hid (HU1.out.trans (Un.ch ((Ch.refl [] W).drew)))
    have HB2 : Hid (W.drew.heap[bo]? = some (.cells (stA s) 86 (0, 0))) := Lib.hid HBZ.out
    clear c4 P b0 b1 b2 b3 b4
    generalize W.drew = w2 at *
    obtain ⟨b0, b1, b2, b3, b4⟩ := st_box HB2.out
    obtain ⟨l0, l1, l2, _⟩ := H2.out.laneF HJ.out HAL.out
    have c0 : w2.cell? ⟨wp, 0, none⟩ = some (.slice a.ac v.cells.length a.cc) := H2.out.wpc 0
    have c1 : w2.cell? ⟨wp, 1, none⟩ = some (.int .u8 v.ph) := H2.out.wpc 1
    have c4 : w2.cell? ⟨wp, 4, none⟩ = some (.slice a.agl v.globals.length a.cgl) := H2.out.wpc 4
    rw [HAG.out] at c4
    have GF : Hid (∀ V O9 a9 v9, WM w0 V O9 wp a9 v9 → SmA a a9 → v9.globals = v.globals → V.cell? ⟨qg, og + pickN s.a v.globals.length, none⟩ = some (.int .u64 (v.globals.getD (pickN s.a v.globals.length) 0)) ∧ (∀ i, V.frozen? ⟨qg, og + i, none⟩ = false) ∧ O9 qg ≠ 0 ∧ ∀ x : Int, WM w0 (V.setCell ⟨qg, og + pickN s.a v.globals.length, none⟩ (.int .u64 x)) O9 wp a9 (setG v9 (pickN s.a v.globals.length) x)) := Lib.hid (fun V O9 a9 v9 hV hA he => by
      have hp9 : pickN s.a v.globals.length < v9.globals.length := by rw [he]; exact HPL.out
      obtain ⟨q9, o9, g0, g1, g2, g3⟩ := hV.glob hp9
      obtain ⟨q8, o8, k0, k1, _⟩ := hV.gl.at_ (by omega)
      rw [hA.gl, HAG.out] at g0 k0
      simp only [Option.some.injEq, Addr.mk.injEq, and_true] at g0 k0
      obtain ⟨rfl, rfl⟩ := g0
      obtain ⟨rfl, rfl⟩ := k0
      have := g1 _ hp9
      rw [he] at this
      exact ⟨this, g2, by omega, g3⟩)
    have gk := (GF.out w2 O a v H2.out (SmA.refl a) rfl).1
    have VAL := value_any w2 q (off + j * 3) (a.la j) (a.lc j) (v.lanes.getD j ln0) s.c HSI.out.c hrn l0 (by simpa using (H2.out.rt j HJ.out).rd.1)
    have STX := Lib.hid (fun V (hV : Ch [] w2 V) => Store_any V a.ac a.cc v.cells v.ph (v.lanes.getD j ln0).sc (v.globals.getD (pickN s.a v.globals.length) 0) (valK (v.lanes.getD j ln0) s.c) (by have := HG.out.nc; omega) (H2.out.chs hV).vm.cells HG.out.inr HUG.out HX.out.1.2 (Bnd.ch HB.out (H2.out.chs hV).g.ch (by simp)))
    generalize valK (v.lanes.getD j ln0) s.c = x at *
    generalize v.globals.getD (pickN s.a v.globals.length) 0 = old at *
    generalize pickN s.a v.globals.length = k at *
    generalize hng : v.globals.length = ng at *
    have HNG := Lib.hid hng
    generalize hsc : (v.lanes.getD j ln0).sc = sc at *
    have HSC := Lib.hid hsc
    generalize (v.lanes.getD j ln0).roots.length = nr at *
    generalize hSS : storeL v.ph sc old x v.cells = S at *
    generalize hph : v.ph = ph at *
    have HP := Lib.hid hph
    generalize hnc : v.cells.length = nc at *
    have HNC := Lib.hid hnc
    clear hng hsc hSS hph hnc
    have HKS : Hid (∀ V, Ch [] w2 V → V.cell? ⟨wp, 0, none⟩ = some (.slice a.ac nc a.cc) ∧ V.cell? ⟨wp, 1, none⟩ = some (.int .u8 ph) ∧ V.cell? ⟨wp, 4, none⟩ = some (.slice (some ⟨qg, og, none⟩) ng a.cgl) ∧ V.cell? ⟨q, off + j * 3 + 1, none⟩ = some (.bool sc) ∧ V.cell? ⟨qg, og + k, none⟩ = some (.int .u64 old)) := Lib.hid (fun V hV => ⟨hV.cell c0 (by simp), hV.cell c1 (by simp), hV.cell c4 (by simp), hV.cell l1 (by simp), hV.cell gk (by simp)⟩)
    have SHX : Hid (∀ W8 lo lc qs, WM w0 W8 O wp a v → Row W8 3 1 (.slice lo S.length lc) qs S.length (nv S) → (∀ x ∈ qs, O x = 0 ∧ x < W8.heap.size) → Calls Tryd.prog 99 #[.pointer (some ⟨wp, 0, none⟩), .slice lo S.length lc] W8 fun e w' => e = .returned (.bool true) ∧ MW w0 W8 O w' wp a (shadeV v S)) := Lib.hid (fun W8 lo lc qs g1 g2 g3 => shade_any g1 HG.out.nc HG.out.greyLen HS.out (by omega) rfl g2 g3)
    have HKT : Hid (∀ V O9 a9, WM w0 V O9 wp a9 (shadeV v S) → SmA a a9 → V.cell? ⟨wp, 0, none⟩ = some (.slice a.ac nc a.cc) ∧ V.cell? ⟨wp, 1, none⟩ = some (.int .u8 ph) ∧ V.cell? ⟨wp, 4, none⟩ = some (.slice (some ⟨qg, og, none⟩) ng a.cgl) ∧ V.cell? ⟨q, off + j * 3 + 1, none⟩ = some (.bool sc) ∧ V.cell? ⟨qg, og + k, none⟩ = some (.int .u64 old)) := Lib.hid (fun V O9 a9 hV hA => by
      have e0 : V.cell? ⟨wp, 0, none⟩ = some (.slice a9.ac (shadeV v S).cells.length a9.cc) := hV.wpc 0
      have e1 : V.cell? ⟨wp, 1, none⟩ = some (.int .u8 v.ph) := hV.wpc 1
      have e4 : V.cell? ⟨wp, 4, none⟩ = some (.slice a9.agl v.globals.length a9.cgl) := hV.wpc 4
      have e2 := (hV.laneF HJ.out (hA.al.trans HAL.out)).2.1
      rw [hA.ac, hA.cc, show (shadeV v S).cells.length = v.cells.length from gray_len _ _, HNC.out] at e0
      rw [HP.out] at e1
      rw [hA.gl, hA.cg, HAG.out, HNG.out] at e4
      exact ⟨e0, e1, e4, by rw [← HSC.out]; exact e2, (GF.out V O9 a9 _ hV hA rfl).1⟩)
    generalize S.length = ns at *
    go_wp2_with fail
    refine VAL.mono ?_
    rintro e w2 ⟨rfl, rfl⟩
    clear VAL
    go_wp2_with fail
    go_region_held3 (fun w' => w'.cell? ⟨wp, 0, none⟩ = some (.slice a.ac nc a.cc) ∧ w'.cell? ⟨wp, 1, none⟩ = some (.int .u8 ph) ∧ w'.cell? ⟨wp, 4, none⟩ = some (.slice (some ⟨qg, og, none⟩) ng a.cgl) ∧ w'.cell? ⟨q, off + j * 3 + 1, none⟩ = some (.bool sc) ∧ w'.cell? ⟨qg, og + k, none⟩ = some (.int .u64 old)) (first | exact HK9.out | exact HK8.out | (refine HKS.out _ ?_ <;> repeat (first | exact Ch.refl _ _ | apply Ch.drew))) (first | (go_at_call 13; refine (STX.out _ (by repeat (first | exact Ch.refl _ _ | apply Ch.drew))).mono ?_; intro e w8 hm; have HC8 : Hid (Ch [] w2 w8) := Lib.hid (Ch.trans' (by repeat (first | exact Ch.refl _ _ | apply Ch.drew)) (mk1_ch hm)); have HK8 := Lib.hid (HKS.out w8 HC8.out); obtain ⟨lo, lc, qs, rfl, g1, g2, g3⟩ := WM.made (H2.out.chs (by repeat (first | exact Ch.refl _ _ | apply Ch.drew))) hm; have SH := SHX.out w8 lo lc qs g1 g2 g3; clear g1 g2 g3 hm) | (go_at_call 99; refine SH.mono ?_; rintro e w9 ⟨rfl, O9, a9, k1, k2, k3⟩; have HK9 := Lib.hid (HKT.out w9 O9 a9 k1 k2); have K1 := Lib.hid k1; have K2 := Lib.hid k2; have K3 := Lib.hid k3; clear k1 k2 k3))
    all_goals
      obtain ⟨_, _, c4, _, gk⟩ := HK9.out
      obtain ⟨_, fz, ho, hset⟩ := GF.out w9 O9 a9 _ K1.out K2.out rfl
      have f1 := fz k
      have Z1 := Lib.hid (hset x)
      have Z2 : Hid (Un w O (w9.setCell ⟨qg, og + k, none⟩ (.int .u64 x)) O9) := Lib.hid (((HU2.out.trans (Un.ch HC8.out)).trans K3.out).trans (Un.of ((Ch.refl [qg] w9).setCell _ _ (.inl (by simp))) (fun y hy => by simp at hy; rw [hy]; exact ho) (fun _ _ h => h)))
      clear fz hset
      go_wp2_with fail
      go_ret
      exact ⟨rfl, by rw [HV2.out]; exact ⟨O9, a9, Z1.out, K2.out, Z2.out⟩⟩
  · have HV2 : Hid (V' = v) := Lib.hid (by rw [HVV.out]; unfold layV; rw [if_neg h0])
    have e0 : v.globals.length = 0 := by omega
    rw [e0] at c4
    clear e0 h0
    unfold stA
    unfold stA at hW
    clear h gv hj hal hs hal1 hbo hb hV' hen
    go_enter Tryd.func79, Tryd.ntmps79
    go_upto_region 1 with fail
    rw [← hW, ← HBO.out]
    clear hW
    obtain ⟨b0, b1, b2, b3, b4⟩ := st_box HBZ.out
    go_wp2_with fail
    go_ret
    exact ⟨rfl, by rw [HV2.out]; exact ⟨O, a, H1.out, SmA.refl a, HU1.out⟩⟩
set_option maxHeartbeats 8000000 in
theorem lane7 {w0 w : World} {O : Nat → Nat} {wp : Nat} {a : VA} {v : Vw} (h : WM w0 w O wp a v) (gv : GV v) (hb : Bnd w0) {j : Nat} (hj : j < v.lanes.length) (hen : (v.lanes.getD j ln0).en = false) {q off : Nat} (hal : a.al = some ⟨q, off, none⟩) (s : S5) (hs : SI s) (hk : s.kd = 7) :
    Calls Tryd.prog 79 #[.pointer (some ⟨wp, 0, none⟩), .agg (stA s), .pointer (some ⟨q, off + j * 3, none⟩)] w fun e w' => e = .returned (.bool true) ∧ MW w0 w O w' wp a (laneS v j s) := by
  obtain ⟨W, hW⟩ : ∃ W, W = w.alloc (.cells (stA s) 86) := ⟨_, rfl⟩
  have hal1 : Ch [] w W := by rw [hW]; exact (Ch.refl _ _).alloc _
  have H1 := Lib.hid (h.chs hal1)
  have HU1 := Lib.hid (Un.ch (O := O) hal1)
  obtain ⟨bo, hbo⟩ : ∃ bo, bo = w.heap.size := ⟨_, rfl⟩
  have HZ0 : Hid (O bo = 0) := Lib.hid (by rw [hbo]; exact h.fresh (Nat.le_refl _))
  have HBZ : Hid (W.heap[bo]? = some (.cells (stA s) 86 (0, 0))) := Lib.hid (by rw [hbo, hW]; exact heap_new w _)
  have HBO := Lib.hid hbo
  have HG := Lib.hid gv
  have HJ := Lib.hid hj
  have HAL := Lib.hid hal
  have HB := Lib.hid hb
  have HSI := Lib.hid hs
  have HEN := Lib.hid hen
  obtain ⟨V', hV'⟩ : ∃ V', V' = laneS v j s := ⟨_, rfl⟩
  rw [← hV']
  have HVV : Hid (V' = endV v j s) := Lib.hid (by rw [hV']; unfold laneS; rw [if_neg (by rw [hk]; decide), if_neg (by rw [hk]; decide), if_neg (by rw [hk]; decide), if_neg (by rw [hk]; decide), if_neg (by rw [hk]; decide), if_neg (by rw [hk]; decide), if_pos hk])
  have hrn := gv.nr _ (getD_memD ln0 hj)
  have n1 : (s.kd == 1) = false := by rw [hk]; rfl
  have n2 : (s.kd == 2) = false := by rw [hk]; rfl
  have n3 : (s.kd == 3) = false := by rw [hk]; rfl
  have n4 : (s.kd == 4) = false := by rw [hk]; rfl
  have n5 : (s.kd == 5) = false := by rw [hk]; rfl
  have n6 : (s.kd == 6) = false := by rw [hk]; rfl
  have n7 : (s.kd == 7) = true := by rw [hk]; rfl
  clear hk
  obtain ⟨l0, l1, l2, lf, _⟩ := H1.out.laneF HJ.out HAL.out
  have VAL := value_any W q (off + j * 3) (a.la j) (a.lc j) (v.lanes.getD j ln0) s.a hs.a hrn l0 (by simpa using (H1.out.rt j HJ.out).rd.1)
  have HV2 : Hid (V' = setL v j ⟨[valK (v.lanes.getD j ln0) s.a], (v.lanes.getD j ln0).sc, true⟩) := Lib.hid (by rw [HVV.out]; rfl)
  generalize valK (v.lanes.getD j ln0) s.a = x at *
  have C2 : Ch [] W (W.alloc (.cells #[.int .u64 x] 24)) := (Ch.refl _ _).alloc _
  have l0' := C2.cell l0 (by simp)
  have f0 : (W.alloc (.cells #[.int .u64 x] 24)).frozen? ⟨q, off + j * 3, none⟩ = false := ((H1.out.chs C2).laneF HJ.out HAL.out).2.2.2.1 (j * 3)
  have RW : Row (W.alloc (.cells #[.int .u64 x] 24)) 24 1 (.slice (some ⟨W.heap.size, 0, none⟩) [x].length 1) [W.heap.size] [x].length (ints .u64 [x]) := ⟨by simp [ints], some ⟨W.heap.size, 0, none⟩, 1, rfl, by simp, by simp [maxLen], by simp, .inr ⟨W.heap.size, 0, _, by simp, rfl, heap_new W _, by simp, fun i hi => by simp at hi; subst hi; simp [ints]⟩⟩
  have hsz : (W.alloc (.cells #[.int .u64 x] 24)).heap.size = W.heap.size + 1 := World.size_alloc _ _
  have L1 := H1.out.laneR HJ.out HAL.out RW C2 (by simp) (fun y hy => .inr (by simp at hy; omega))
  have HL1 := Lib.hid L1
  have HUL : Hid (Un w O ((W.alloc (.cells #[.int .u64 x] 24)).setCell ⟨q, off + j * 3, none⟩ (.slice (some ⟨W.heap.size, 0, none⟩) [x].length 1)) (put O (6 + j) [W.heap.size])) := Lib.hid (HU1.out.trans (Un.of ((C2.mono (T := [q]) (by simp)).setCell _ _ (.inl (by simp))) (fun y hy => by simp at hy; rw [hy]; have := (H1.out.laneF HJ.out HAL.out).2.2.2.2; omega) (put_un (w1 := W.alloc (.cells #[.int .u64 x] 24)) (by omega) (fun y hy => .inr (by simp at hy; omega)))))
  simp only [List.length_singleton] at HL1 HUL
  clear L1 RW hsz C2 l1 l2 lf
  generalize (v.lanes.getD j ln0).roots.length = nr at *
  unfold stA
  unfold stA at hW
  clear h gv hj hal hs hal1 hbo hb hV' hen
  go_enter Tryd.func79, Tryd.ntmps79
  go_upto_region 1 with fail
  rw [← hW, ← HBO.out]
  clear hW
  obtain ⟨b0, b1, b2, b3, b4⟩ := st_box HBZ.out
  go_wp2_with fail
  refine VAL.mono ?_
  rintro e w2 ⟨rfl, rfl⟩
  clear VAL
  go_upto_region 30 with fail
  generalize (w2.alloc (.cells #[.int .u64 x] 24)).setCell ⟨q, off + j * 3, none⟩ (.slice (some ⟨w2.heap.size, 0, none⟩) 1 1) = w3 at *
  have hj3 : j < (setL v j { v.lanes.getD j ln0 with roots := [x] }).lanes.length := by show j < (v.lanes.set j _).length; rw [List.length_set]; exact HJ.out
  obtain ⟨_, _, m2, mf, mo⟩ := HL1.out.laneF hj3 (show (laU a j (some ⟨w2.heap.size, 0, none⟩) 1).al = some ⟨q, off, none⟩ from HAL.out)
  have f2 : w3.frozen? ⟨q, off + j * 3 + 2, none⟩ = false := mf (j * 3 + 2)
  have L2 := HL1.out.laneB (t := 2) (l := ⟨[x], (v.lanes.getD j ln0).sc, true⟩) hj3 (show (laU a j (some ⟨w2.heap.size, 0, none⟩) 1).al = some ⟨q, off, none⟩ from HAL.out) (.inr rfl) (by rw [lane_set_at _ _ _ HJ.out, if_pos rfl]) true ⟨fun e => by omega, fun _ => ⟨rfl, by rw [lane_set_at _ _ _ HJ.out, if_pos rfl]⟩⟩
  have es : setL (setL v j { v.lanes.getD j ln0 with roots := [x] }) j ⟨[x], (v.lanes.getD j ln0).sc, true⟩ = setL v j ⟨[x], (v.lanes.getD j ln0).sc, true⟩ := by simp [setL, List.set_set]
  rw [es, show off + (j * 3 + 2) = off + j * 3 + 2 by omega] at L2
  have Z : Hid (MW w0 w O (w3.setCell ⟨q, off + j * 3 + 2, none⟩ (.bool true)) wp a V') := Lib.hid (by
    rw [HV2.out]
    exact ⟨_, _, L2, ⟨rfl, rfl, rfl, rfl, rfl⟩, HUL.out.trans (Un.of ((Ch.refl [q] w3).setCell _ _ (.inl (by simp))) (fun y hy => by simp at hy; rw [hy]; omega) (fun _ _ h => h))⟩)
  clear L2 hj3 mf
  generalize ((setL v j { v.lanes.getD j ln0 with roots := [x] }).lanes.getD j ln0).en = en9 at *
  go_wp2_with fail
  go_ret
  exact ⟨rfl, Z.out⟩
end Go.Proofs.YtlhhcocdhkbdnaaDoor.Kp
