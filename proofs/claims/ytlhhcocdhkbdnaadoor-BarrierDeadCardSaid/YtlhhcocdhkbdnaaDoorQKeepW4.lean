/-
  THE WALKS of BarrierKeeps, on: store.
-/
import Derived.Test.YtlhhcocdhkbdnaaDoorQJKeepW3
import Derived.Deep.RegionHeld3
set_option linter.unusedVariables false
set_option linter.unusedSimpArgs false
set_option maxRecDepth 100000
namespace Go.Proofs.YtlhhcocdhkbdnaaDoor.Kp
open Go.RowKit Go.Proofs.YtlhhcocdhkbdnaaDoor.Wd Go.Proofs.YtlhhcocdhkbdnaaDoor.Hp Go.Proofs.YtlhhcocdhkbdnaaDoor.Gp Go.Proofs.YtlhhcocdhkbdnaaDoor.Sm Go.Proofs.YtlhhcocdhkbdnaaDoor.Gr Go.Proofs.YtlhhcocdhkbdnaaDoor.Bp Go.Proofs.YtlhhcocdhkbdnaaDoor.Own
def stA (s : S5) : Array Value := #[.int .i64 s.kd, .int .i64 s.who, .int .i64 s.a, .int .i64 s.b, .int .i64 s.c]
structure SI (s : S5) : Prop where
  a : I64 s.a
  b : I64 s.b
  c : I64 s.c
  who : I64 s.who
theorem WM.laneF {w0 w : World} {O : Nat → Nat} {wp : Nat} {a : VA} {v : Vw} (h : WM w0 w O wp a v) {j : Nat} (hj : j < v.lanes.length) {q off : Nat} (hal : a.al = some ⟨q, off, none⟩) :
    w.cell? ⟨q, off + j * 3, none⟩ = some (.slice (a.la j) (v.lanes.getD j ln0).roots.length (a.lc j)) ∧ w.cell? ⟨q, off + j * 3 + 1, none⟩ = some (.bool (v.lanes.getD j ln0).sc) ∧ w.cell? ⟨q, off + j * 3 + 2, none⟩ = some (.bool (v.lanes.getD j ln0).en) ∧ (∀ i, w.frozen? ⟨q, off + i, none⟩ = false) ∧ O q = 5 := by
  obtain ⟨q', off', e1, e2, e3, e4⟩ := h.lane hj
  rw [hal] at e1
  simp only [Option.some.injEq, Addr.mk.injEq, and_true] at e1
  obtain ⟨rfl, rfl⟩ := e1
  exact ⟨e3 j 0 hj (by omega), e3 j 1 hj (by omega), e3 j 2 hj (by omega), e4, e2⟩
theorem WM.cellF {w0 w : World} {O : Nat → Nat} {wp : Nat} {a : VA} {v : Vw} (h : WM w0 w O wp a v) {c : Nat} (hc : c < v.cells.length) {q off : Nat} (hac : a.ac = some ⟨q, off, none⟩) :
    w.cell? ⟨q, off + c * 4, none⟩ = some (.int .u8 (cel v c).k) ∧ w.cell? ⟨q, off + c * 4 + 1, none⟩ = some (.int .u8 (cel v c).c) ∧ w.cell? ⟨q, off + c * 4 + 2, none⟩ = some (.int .u64 (cel v c).a) ∧ w.cell? ⟨q, off + c * 4 + 3, none⟩ = some (.int .u64 (cel v c).b) ∧ (∀ i, w.frozen? ⟨q, off + i, none⟩ = false) ∧ O q = 2 := by
  obtain ⟨q', off', e1, e3, e4, _⟩ := h.cell hc
  obtain ⟨q9, o9, g1, g2, _⟩ := h.cs.at_ (by omega)
  rw [hac] at e1 g1
  simp only [Option.some.injEq, Addr.mk.injEq, and_true] at e1 g1
  obtain ⟨rfl, rfl⟩ := e1
  obtain ⟨rfl, rfl⟩ := g1
  exact ⟨e3 c 0 hc (by omega), e3 c 1 hc (by omega), e3 c 2 hc (by omega), e3 c 3 hc (by omega), e4, g2⟩
theorem WM.cellS {w0 w : World} {O : Nat → Nat} {wp : Nat} {a : VA} {v : Vw} (h : WM w0 w O wp a v) {c : Nat} (hc : c < v.cells.length) {q off : Nat} (hac : a.ac = some ⟨q, off, none⟩) (t : Nat) (u : Value) (y : Cel) (ht : t < 4) (hy : celV y = (celV (cel v c)).set t u) :
    WM w0 (w.setCell ⟨q, off + (c * 4 + t), none⟩ u) O wp a { v with cells := v.cells.set c y } ∧ Un w O (w.setCell ⟨q, off + (c * 4 + t), none⟩ u) O := by
  have hq := (h.cellF hc hac).2.2.2.2.2
  obtain ⟨q', off', e1, _, _, e5⟩ := h.cell hc
  rw [hac] at e1
  simp only [Option.some.injEq, Addr.mk.injEq, and_true] at e1
  obtain ⟨rfl, rfl⟩ := e1
  exact ⟨e5 t u y ht hy, Un.of ((Ch.refl [q] w).setCell _ _ (.inl (by simp))) (fun x hx => by simp at hx; rw [hx]; omega) (fun _ _ h => h)⟩
theorem mk1_ch {e : TypeId} {xs : List Value} {n : Nat} {w w' : World} {en : Ending} (h : Mk1 e xs n w en w') : Ch [] w w' := by obtain ⟨_, _, _, _, k, _⟩ := h; exact k
/-- A word of the box of a step. -/
theorem st_box {W : World} {b : Nat} {s : S5} (h : W.heap[b]? = some (.cells (stA s) 86 (0, 0))) : W.cell? ⟨b, 0, none⟩ = some (.int .i64 s.kd) ∧ W.cell? ⟨b, 1, none⟩ = some (.int .i64 s.who) ∧ W.cell? ⟨b, 2, none⟩ = some (.int .i64 s.a) ∧ W.cell? ⟨b, 3, none⟩ = some (.int .i64 s.b) ∧ W.cell? ⟨b, 4, none⟩ = some (.int .i64 s.c) :=
  ⟨by rw [cell_at h]; rfl, by rw [cell_at h]; rfl, by rw [cell_at h]; rfl, by rw [cell_at h]; rfl, by rw [cell_at h]; rfl⟩
theorem GV.greyLen {v : Vw} (h : GV v) : v.grey.length ≤ 60 := by
  have hs : ∀ x ∈ v.grey, x ∈ (List.range v.cells.length).map (fun (c : Nat) => (c : Int)) := fun x hx => by
    have := h.mv.gin x hx
    exact List.mem_map.2 ⟨x.toNat, List.mem_range.2 (by omega), by omega⟩
  have := h.mv.nd.length_le_of_subset hs
  have hn := h.nc
  simp only [List.length_map, List.length_range] at this
  omega
theorem celK_some {v : Vw} {l : Ln} {c : Int} : celA (celK v l c) = match celK v l c with | none => .tuple #[.int .i64 0, .bool false] | some d => .tuple #[.int .i64 ((d : Nat) : Int), .bool true] := by
  unfold celA; cases celK v l c <;> rfl
theorem tmod2 (x : Int) : -2 < x.tmod 2 ∧ x.tmod 2 < 2 := by
  by_cases h : 0 ≤ x
  · rw [Int.tmod_eq_emod_of_nonneg h]; omega
  · have e : x.tmod 2 = -((-x).tmod 2) := by rw [Int.neg_tmod, Int.neg_neg]
    rw [e, Int.tmod_eq_emod_of_nonneg (show 0 ≤ -x by omega)]; omega
set_option maxHeartbeats 8000000 in
theorem store_any {w0 w : World} {O : Nat → Nat} {wp : Nat} {a : VA} {v : Vw} (h : WM w0 w O wp a v) (gv : GV v) (hb : Bnd w0) {j : Nat} (hj : j < v.lanes.length) {q off : Nat} (hal : a.al = some ⟨q, off, none⟩) (s : S5) (hs : SI s) :
    Calls Tryd.prog 98 #[.pointer (some ⟨wp, 0, none⟩), .agg (stA s), .pointer (some ⟨q, off + j * 3, none⟩)] w fun e w' => e = .returned (.bool true) ∧ MW w0 w O w' wp a (storeV v j s) := by
  obtain ⟨W, hW⟩ : ∃ W, W = w.alloc (.cells (stA s) 86) := ⟨_, rfl⟩
  have hal1 : Ch [] w W := by rw [hW]; exact (Ch.refl _ _).alloc _
  have H1 := Lib.hid (h.chs hal1)
  have HU1 := Lib.hid (Un.ch (O := O) hal1)
  obtain ⟨bo, hbo⟩ : ∃ bo, bo = w.heap.size := ⟨_, rfl⟩
  have HZ0 : Hid (O bo = 0) := Lib.hid (by rw [hbo]; exact h.fresh (Nat.le_refl _))
  have HBZ : Hid (W.heap[bo]? = some (.cells (stA s) 86 (0, 0))) := Lib.hid (by rw [hbo, hW]; exact heap_new w _)
  have HBO := Lib.hid hbo
  have HG := Lib.hid gv
  have HJ := Lib.hid hj
  have HAL := Lib.hid hal
  have HB := Lib.hid hb
  have HSI := Lib.hid hs
  have CE := cell_any H1.out gv hj hal s.a hs.a
  rw [celK_some] at CE
  unfold storeV
  unfold stA
  unfold stA at hW
  cases hck : celK v (v.lanes.getD j ln0) s.a with
  | none =>
    rw [hck] at CE
    simp only at CE ⊢
    clear h gv hj hal hs hal1 hbo hck hb
    go_enter Tryd.func98, Tryd.ntmps98
    go_wp2_with fail
    rw [← hW]
    clear hW
    refine CE.mono ?_
    rintro e w2 ⟨rfl, g1⟩
    have Z : Hid (MW w0 w O w2 wp a v) := Lib.hid ⟨O, a, H1.out.chs g1, SmA.refl a, HU1.out.trans (Un.ch g1)⟩
    clear CE g1
    go_wp2_with fail
    go_ret
    exact ⟨rfl, Z.out⟩
  | some d =>
    rw [hck] at CE
    simp only at CE ⊢
    obtain ⟨r, hr1, hr2, hr3, hnf⟩ := cel_ok hck
    have hdl := nofree_lt hnf
    have HD := Lib.hid hdl
    have HX := Lib.hid (gv.val hj s.c)
    have HOK := Lib.hid (gv.cellOk hnf (odd s.b))
    obtain ⟨qc, oc, hac, _⟩ := H1.out.cell hdl
    have HAC := Lib.hid hac
    have HS := Lib.hid (store_sok v (v.lanes.getD j ln0).sc (fget (cel v d) (odd s.b)) (valK (v.lanes.getD j ln0) s.c))
    have hsl := storeL_len v.ph (v.lanes.getD j ln0).sc (fget (cel v d) (odd s.b)) (valK (v.lanes.getD j ln0) s.c) v.cells
    have hrn := gv.nr _ (getD_memD ln0 hj)
    obtain ⟨rr, hrr⟩ : ∃ rr, rr = s.b.tmod 2 := ⟨_, rfl⟩
    have hwr : wrap64 rr = rr := by have := tmod2 s.b; rw [hrr]; unfold wrap64; omega
    have HODD : Hid (odd s.b = (rr != 0)) := Lib.hid (by rw [hrr]; rfl)
    obtain ⟨V', hV'⟩ : ∃ V', V' = setW (shadeV v (storeL v.ph (v.lanes.getD j ln0).sc (fget (cel v d) (odd s.b)) (valK (v.lanes.getD j ln0) s.c) v.cells)) d (odd s.b) (valK (v.lanes.getD j ln0) s.c) := ⟨_, rfl⟩
    rw [← hV']
    have HV := Lib.hid hV'
    clear h gv hj hal hs hal1 hbo hck hb hr1 hr2 hr3 hnf hac hV'
    go_enter Tryd.func98, Tryd.ntmps98
    go_wp2_with fail
    rw [← hW, ← HBO.out]
    clear hW
    refine CE.mono ?_
    rintro e w2 ⟨rfl, g1⟩
    have H2 := Lib.hid (H1.out.chs g1)
    have HU2 := Lib.hid (HU1.out.trans (Un.ch g1))
    have HB2 := Lib.hid (g1.heap HBZ.out (by simp))
    obtain ⟨_, _, b2, b3, b4⟩ := st_box HB2.out
    obtain ⟨l0, l1, l2, _⟩ := H2.out.laneF HJ.out HAL.out
    obtain ⟨_, _, y2, y3, _⟩ := H2.out.cellF HD.out HAC.out
    have c0 : w2.cell? ⟨wp, 0, none⟩ = some (.slice a.ac v.cells.length a.cc) := H2.out.wpc 0
    have c1 : w2.cell? ⟨wp, 1, none⟩ = some (.int .u8 v.ph) := H2.out.wpc 1
    rw [HAC.out] at c0
    have VAL := value_any w2 q (off + j * 3) (a.la j) (a.lc j) (v.lanes.getD j ln0) s.c HSI.out.c hrn l0 (by simpa using (H2.out.rt j HJ.out).rd.1)
    have STX := Lib.hid (fun V (hV : Ch [] w2 V) => Store_any V a.ac a.cc v.cells v.ph (v.lanes.getD j ln0).sc (fget (cel v d) (odd s.b)) (valK (v.lanes.getD j ln0) s.c) (by have := HG.out.nc; omega) (H2.out.chs hV).vm.cells HG.out.inr HOK.out.2 HX.out.1.2 (Bnd.ch HB.out (H2.out.chs hV).g.ch (by simp)))
    rw [HAC.out] at STX
    have ltD : (d : Int) < v.cells.length := by have := HD.out; omega
    clear CE g1
    generalize valK (v.lanes.getD j ln0) s.c = x at *
    generalize hsc : (v.lanes.getD j ln0).sc = sc at *
    have HSC := Lib.hid hsc
    clear hsc
    generalize (v.lanes.getD j ln0).roots.length = nr at *
    have HFG : Hid (fget (cel v d) (odd s.b) = if odd s.b then (cel v d).b else (cel v d).a) := Lib.hid rfl
    have HFS : Hid (∀ V : Vw, celV (fset (cel V d) (odd s.b) x) = (celV (cel V d)).set (if odd s.b then 3 else 2) (.int .u64 x)) := Lib.hid (fun V => by unfold fset celV; cases odd s.b <;> rfl)
    generalize fget (cel v d) (odd s.b) = old at *
    generalize hca : (cel v d).a = ca at *
    generalize hcb : (cel v d).b = cb at *
    rw [HODD.out] at HFG HFS HV
    have HRR := Lib.hid hrr
    clear hrr hca hcb HODD
    generalize hSS : storeL v.ph sc old x v.cells = S at *
    generalize hph : v.ph = ph at *
    have HPH := Lib.hid hph
    clear hph
    generalize hnc : v.cells.length = nc at *
    have HNC := Lib.hid hnc
    clear hSS hnc
    have HTM : Hid (s.b.tmod 2 = rr) := Lib.hid HRR.out.symm
    have HKS : Hid (∀ V, Ch [] w2 V → V.cell? ⟨wp, 0, none⟩ = some (.slice (some ⟨qc, oc, none⟩) nc a.cc) ∧ V.cell? ⟨wp, 1, none⟩ = some (.int .u8 ph) ∧ V.cell? ⟨q, off + j * 3 + 1, none⟩ = some (.bool sc)) := Lib.hid (fun V hV => ⟨hV.cell c0 (by simp), hV.cell c1 (by simp), hV.cell l1 (by simp)⟩)
    have SHX : Hid (∀ W8 lo lc qs, WM w0 W8 O wp a v → Row W8 3 1 (.slice lo S.length lc) qs S.length (nv S) → (∀ x ∈ qs, O x = 0 ∧ x < W8.heap.size) → Calls Tryd.prog 99 #[.pointer (some ⟨wp, 0, none⟩), .slice lo S.length lc] W8 fun e w' => e = .returned (.bool true) ∧ MW w0 W8 O w' wp a (shadeV v S)) := Lib.hid (fun W8 lo lc qs g1 g2 g3 => shade_any g1 HG.out.nc HG.out.greyLen HS.out (by omega) rfl g2 g3)
    have HKT : Hid (∀ V O9 a9, WM w0 V O9 wp a9 (shadeV v S) → SmA a a9 → V.cell? ⟨wp, 0, none⟩ = some (.slice (some ⟨qc, oc, none⟩) nc a.cc) ∧ V.cell? ⟨wp, 1, none⟩ = some (.int .u8 ph) ∧ V.cell? ⟨q, off + j * 3 + 1, none⟩ = some (.bool sc)) := Lib.hid (fun V O9 a9 hV hA => by
      have e0 : V.cell? ⟨wp, 0, none⟩ = some (.slice a9.ac (shadeV v S).cells.length a9.cc) := hV.wpc 0
      have e1 : V.cell? ⟨wp, 1, none⟩ = some (.int .u8 v.ph) := hV.wpc 1
      have e2 := (hV.laneF HJ.out (hA.al.trans HAL.out)).2.1
      rw [hA.ac, hA.cc, HAC.out, show (shadeV v S).cells.length = v.cells.length from gray_len _ _, HNC.out] at e0
      rw [HPH.out] at e1
      exact ⟨e0, e1, by rw [← HSC.out]; exact e2⟩)
    generalize S.length = ns at *
    by_cases hr0 : rr = 0
    · subst hr0
      have e0 : s.b.tmod 2 = 0 := HTM.out
      simp only [bne_self_eq_false, Bool.false_eq_true, if_false] at HFG HFS HV
      have hold := HFG.out
      subst hold
      clear HFG
      go_wp2_with fail
      refine VAL.mono ?_
      rintro e w2 ⟨rfl, rfl⟩
      clear VAL
      go_wp2_with fail
      go_region_held3 (fun w' => w'.cell? ⟨wp, 0, none⟩ = some (.slice (some ⟨qc, oc, none⟩) nc a.cc) ∧ w'.cell? ⟨wp, 1, none⟩ = some (.int .u8 ph) ∧ w'.cell? ⟨q, off + j * 3 + 1, none⟩ = some (.bool sc)) (first | exact HK9.out | exact HK8.out | (refine HKS.out _ ?_ <;> repeat (first | exact Ch.refl _ _ | apply Ch.drew))) (first | (go_at_call 13; refine (STX.out _ (by repeat (first | exact Ch.refl _ _ | apply Ch.drew))).mono ?_; intro e w8 hm; have HC8 : Hid (Ch [] w2 w8) := Lib.hid (Ch.trans' (by repeat (first | exact Ch.refl _ _ | apply Ch.drew)) (mk1_ch hm)); have HK8 := Lib.hid (HKS.out w8 HC8.out); obtain ⟨lo, lc, qs, rfl, g1, g2, g3⟩ := WM.made (H2.out.chs (by repeat (first | exact Ch.refl _ _ | apply Ch.drew))) hm; have SH := SHX.out w8 lo lc qs g1 g2 g3; clear g1 g2 g3 hm) | (go_at_call 99; refine SH.mono ?_; rintro e w9 ⟨rfl, O9, a9, k1, k2, k3⟩; have HK9 := Lib.hid (HKT.out w9 O9 a9 k1 k2); have K1 := Lib.hid k1; have K2 := Lib.hid k2; have K3 := Lib.hid k3; clear k1 k2 k3))
      all_goals
        have HB9 := (K3.out.un bo (lt_of (HC8.out.heap HB2.out (by simp))) HZ0.out).1.trans (HC8.out.heap HB2.out (by simp))
        obtain ⟨_, _, _, b3, _⟩ := st_box HB9
        obtain ⟨c0, _, _⟩ := HK9.out
        have hl9 : d < (shadeV v S).cells.length := by rw [show (shadeV v S).cells.length = v.cells.length from gray_len _ _, HNC.out]; exact HD.out
        obtain ⟨_, _, y2, y3, f9, _⟩ := K1.out.cellF hl9 (K2.out.ac.trans HAC.out)
        have f2 : w9.frozen? ⟨qc, oc + d * 4 + 2, none⟩ = false := f9 (d * 4 + 2)
        have Z := K1.out.cellS hl9 (K2.out.ac.trans HAC.out) 2 (.int .u64 x) _ (by omega) (HFS.out (shadeV v S))
        rw [show oc + (d * 4 + 2) = oc + d * 4 + 2 by omega] at Z
        have Z1 := Lib.hid Z.1
        have Z2 := Lib.hid Z.2
        clear Z HB9 hl9 f9
        generalize (cel (shadeV v S) d).a = u1 at *
        generalize (cel (shadeV v S) d).b = u2 at *
        go_wp2_with fail
        go_ret
        exact ⟨rfl, by rw [HV.out]; exact ⟨O9, a9, Z1.out, K2.out, ((HU2.out.trans (Un.ch HC8.out)).trans K3.out).trans Z2.out⟩⟩
    · have e0 : s.b.tmod 2 = rr := HTM.out
      have e1 : (rr != 0) = true := by simpa using hr0
      have e2 : (rr == 0) = false := by simpa using hr0
      rw [e1] at HFG HFS HV
      simp only [if_true] at HFG HFS
      have hold := HFG.out
      subst hold
      clear hr0
      clear HFG
      go_wp2_with fail
      refine VAL.mono ?_
      rintro e w2 ⟨rfl, rfl⟩
      clear VAL
      go_wp2_with fail
      go_region_held3 (fun w' => w'.cell? ⟨wp, 0, none⟩ = some (.slice (some ⟨qc, oc, none⟩) nc a.cc) ∧ w'.cell? ⟨wp, 1, none⟩ = some (.int .u8 ph) ∧ w'.cell? ⟨q, off + j * 3 + 1, none⟩ = some (.bool sc)) (first | exact HK9.out | exact HK8.out | (refine HKS.out _ ?_ <;> repeat (first | exact Ch.refl _ _ | apply Ch.drew))) (first | (go_at_call 13; refine (STX.out _ (by repeat (first | exact Ch.refl _ _ | apply Ch.drew))).mono ?_; intro e w8 hm; have HC8 : Hid (Ch [] w2 w8) := Lib.hid (Ch.trans' (by repeat (first | exact Ch.refl _ _ | apply Ch.drew)) (mk1_ch hm)); have HK8 := Lib.hid (HKS.out w8 HC8.out); obtain ⟨lo, lc, qs, rfl, g1, g2, g3⟩ := WM.made (H2.out.chs (by repeat (first | exact Ch.refl _ _ | apply Ch.drew))) hm; have SH := SHX.out w8 lo lc qs g1 g2 g3; clear g1 g2 g3 hm) | (go_at_call 99; refine SH.mono ?_; rintro e w9 ⟨rfl, O9, a9, k1, k2, k3⟩; have HK9 := Lib.hid (HKT.out w9 O9 a9 k1 k2); have K1 := Lib.hid k1; have K2 := Lib.hid k2; have K3 := Lib.hid k3; clear k1 k2 k3))
      all_goals
        have HB9 := (K3.out.un bo (lt_of (HC8.out.heap HB2.out (by simp))) HZ0.out).1.trans (HC8.out.heap HB2.out (by simp))
        obtain ⟨_, _, _, b3, _⟩ := st_box HB9
        obtain ⟨c0, _, _⟩ := HK9.out
        have hl9 : d < (shadeV v S).cells.length := by rw [show (shadeV v S).cells.length = v.cells.length from gray_len _ _, HNC.out]; exact HD.out
        obtain ⟨_, _, y2, y3, f9, _⟩ := K1.out.cellF hl9 (K2.out.ac.trans HAC.out)
        have f2 : w9.frozen? ⟨qc, oc + d * 4 + 3, none⟩ = false := f9 (d * 4 + 3)
        have Z := K1.out.cellS hl9 (K2.out.ac.trans HAC.out) 3 (.int .u64 x) _ (by omega) (HFS.out (shadeV v S))
        rw [show oc + (d * 4 + 3) = oc + d * 4 + 3 by omega] at Z
        have Z1 := Lib.hid Z.1
        have Z2 := Lib.hid Z.2
        clear Z HB9 hl9 f9
        generalize (cel (shadeV v S) d).a = u1 at *
        generalize (cel (shadeV v S) d).b = u2 at *
        go_wp2_with fail
        go_ret
        exact ⟨rfl, by rw [HV.out]; exact ⟨O9, a9, Z1.out, K2.out, ((HU2.out.trans (Un.ch HC8.out)).trans K3.out).trans Z2.out⟩⟩
end Go.Proofs.YtlhhcocdhkbdnaaDoor.Kp
