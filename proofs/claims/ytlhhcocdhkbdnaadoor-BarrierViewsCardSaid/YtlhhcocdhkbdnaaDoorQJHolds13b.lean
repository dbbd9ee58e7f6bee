/-
  THE WALKS of dappleref13.Guarded and Holds.
  THE WALK of dappleref13.Holds.
-/
import Derived.Test.YtlhhcocdhkbdnaaDoorQGuard13
import Derived.Test.YtlhhcocdhkbdnaaDoorQLaw13n
import Derived.Test.YtlhhcocdhkbdnaaDoorQJRef10b
set_option linter.unusedVariables false
set_option linter.unusedSimpArgs false
set_option maxRecDepth 100000
namespace Go.Proofs.YtlhhcocdhkbdnaaDoor.L13
open Go.RowKit Go.Proofs.YtlhhcocdhkbdnaaDoor.Wd Go.Proofs.YtlhhcocdhkbdnaaDoor.Hp Go.Proofs.YtlhhcocdhkbdnaaDoor.Gp Go.Proofs.YtlhhcocdhkbdnaaDoor.Sm Go.Proofs.YtlhhcocdhkbdnaaDoor.Gr Go.Proofs.YtlhhcocdhkbdnaaDoor.Bp
set_option maxHeartbeats 1000000 in
theorem Guarded13_any (w : World) (a : VA) (v : Vw) (hb : Bnd w) (hv : VM w a v) (hr : VR v) :
    Calls Tryd.prog 62 #[.agg (a.arr v)] w (GdPost v.cells.length (mayV v) (byL v) (wellL v) w) := by
  obtain ⟨W, hW⟩ : ∃ W, W = w.alloc (.cells (a.arr v) 65) := ⟨_, rfl⟩
  have C0 : Ch [] w W := by rw [hW]; exact (Ch.refl _ _).alloc _
  have hbx : W.heap[w.heap.size]? = some (.cells (a.arr v) 65 (0, 0)) := by rw [hW]; exact heap_new w _
  have HBX := Lib.hid hbx
  have KX : Hid (∀ w1 : World, Ch [] W w1 → w1.cell? ⟨w.heap.size, 0, none⟩ = some (.slice a.ac v.cells.length a.cc) ∧ w1.cell? ⟨w.heap.size, 1, none⟩ = some (.int .u8 v.ph) ∧ w1.cell? ⟨w.heap.size, 2, none⟩ = some (.int .i64 v.sw) ∧ w1.cell? ⟨w.heap.size, 3, none⟩ = some (.slice a.ag v.grey.length a.cg) ∧ w1.cell? ⟨w.heap.size, 4, none⟩ = some (.slice a.agl v.globals.length a.cgl) ∧ w1.cell? ⟨w.heap.size, 5, none⟩ = some (.int .i64 v.laid) ∧ w1.cell? ⟨w.heap.size, 6, none⟩ = some (.slice a.al v.lanes.length a.cl)) := Lib.hid (fun w1 h1 => by
    have hh := h1.heap HBX.out (by simp)
    unfold VA.arr at hh
    exact ⟨cell_at hh, cell_at hh, cell_at hh, cell_at hh, cell_at hh, cell_at hh, cell_at hh⟩)
  have M := Right13_any W a v (hv.ch C0) hr
  rw [rightV_eq] at M
  have HG1 := Lib.hid (fun (w1 : World) (h1 : Ch [] W w1) (hm : mayV v = true) => show Calls _ _ _ w1 (WalkPost v.cells.length (byL v) w1) from by
    have := guarded13_any w1 a v true (hv.ch (C0.trans' h1)) hr (mayV_ok hm) (Bnd.ch hb (C0.trans' h1) (by simp))
    rw [walk_src (mayV_ok hm)] at this
    simpa [byL] using this)
  have HG2 := Lib.hid (fun (w1 : World) (h1 : Ch [] W w1) (hm : mayV v = true) => show Calls _ _ _ w1 (WalkPost v.cells.length (wellL v) w1) from by
    have := guarded13_any w1 a v false (hv.ch (C0.trans' h1)) hr (mayV_ok hm) (Bnd.ch hb (C0.trans' h1) (by simp))
    rw [walk_src (mayV_ok hm)] at this
    simpa [wellL] using this)
  have HC0 := Lib.hid C0
  unfold VA.arr at hW M HG1 HG2 ⊢
  unfold WalkPost at HG1 HG2
  obtain ⟨k0, k1, k2, k3, k4, k5, k6⟩ := KX.out W (Ch.refl _ _)
  clear hv hr hb hbx C0
  generalize hmm : mayV v = mm at *
  clear hmm
  generalize v.globals.length = ng at *
  generalize v.grey.length = gl at *
  generalize v.lanes.length = nl at *
  generalize v.cells.length = n at *
  obtain ⟨R, hR⟩ : ∃ R, R = GdPost n mm (byL v) (wellL v) w := ⟨_, rfl⟩
  have HRE := Lib.hid hR
  rw [← hR]
  clear hR
  cases mm
  · go_enter Tryd.func62, Tryd.ntmps62
    go_wp2_with fail
    rw [← hW]
    refine M.mono ?_
    rintro e w2 ⟨rfl, h2⟩
    clear hW k0 k1 k2 k3 k4 k5 k6
    go_wp2_with fail
    go_ret3
    rw [HRE.out]
    exact ⟨HC0.out.trans' h2, .inl ⟨rfl, rfl⟩⟩
  · go_enter Tryd.func62, Tryd.ntmps62
    go_wp2_with fail
    rw [← hW]
    refine M.mono ?_
    rintro e w2 ⟨rfl, h2⟩
    have H2 := Lib.hid h2
    clear hW k0 k1 k2 k3 k4 k5 k6 M
    obtain ⟨k0, k1, k2, k3, k4, k5, k6⟩ := KX.out w2 h2
    have G := HG1.out w2 h2 (by first | rfl | trivial)
    clear h2
    go_wp2_with fail
    refine G.mono ?_
    rintro e w3 ⟨m1, rfl, g1, g2, g3⟩
    have H3 := Lib.hid (H2.out.trans' g2)
    have HM1 := Lib.hid g1
    have HS1 := Lib.hid g3
    clear G g1 g2 g3 k0 k1 k2 k3 k4 k5 k6
    obtain ⟨k0, k1, k2, k3, k4, k5, k6⟩ := KX.out w3 H3.out
    have G := HG2.out w3 H3.out (by first | rfl | trivial)
    go_wp2_with fail
    refine G.mono ?_
    rintro e w4 ⟨m2, rfl, g1, g2, g3⟩
    have Z : Hid (R (.returned (.tuple #[.slice (some ⟨m1, 0, none⟩) n n, .slice (some ⟨m2, 0, none⟩) n n, .int .i64 0])) w4) := Lib.hid (by
      rw [HRE.out]
      have s1 := HC0.out.size
      have s2 := H2.out.size
      have s3 := H3.out.size
      have s4 := HS1.out
      exact ⟨HC0.out.trans' (H3.out.trans' g2), .inr ⟨rfl, m1, m2, rfl, g2.heap HM1.out (by simp), g1, by omega, by omega, fun e => by have h1 := lt_of HM1.out; omega⟩⟩)
    clear G g1 g2 g3 k0 k1 k2 k3 k4 k5 k6
    go_wp2_with fail
    go_ret3
    exact Z.out
def lA (v : Vw) (j : Nat) : List Int := v.globals.take v.laid.toNat ++ (v.lanes.take j).flatMap sr
def lB (v : Vw) (j : Nat) : List Int := lA v v.lanes.length ++ (v.cells.take j).flatMap bw
theorem lA_next (v : Vw) (j : Nat) (hj : j < v.lanes.length) : lA v (j + 1) = lA v j ++ sr (v.lanes.getD j ln0) := by
  unfold lA; rw [take_snoc v.lanes j ln0 hj]; simp
theorem lB_next (v : Vw) (j : Nat) (hj : j < v.cells.length) : lB v (j + 1) = lB v j ++ bw (v.cells.getD j z) := by
  unfold lB; rw [take_snoc v.cells j z hj]; simp
theorem lB_all (v : Vw) : lB v v.cells.length = laidR v := by
  unfold lB lA laidR
  rw [List.take_length, List.take_length]
theorem lA_len (v : Vw) (j : Nat) : (lA v j).length ≤ v.globals.length + rootsN v.lanes := by
  have := sr_len (v.lanes.take j)
  have := rootsN_take v.lanes j
  unfold lA
  rw [List.length_append, List.length_take]; omega
theorem lB_len (v : Vw) (j : Nat) : (lB v j).length ≤ v.globals.length + rootsN v.lanes + 2 * v.cells.length := by
  have := lA_len v v.lanes.length
  have := bw_len (v.cells.take j)
  have h2 : (v.cells.take j).length ≤ v.cells.length := by rw [List.length_take]; omega
  unfold lB
  rw [List.length_append]; omega
theorem VOk.laidWords {v : Vw} (hk : VOk v) : ∀ x ∈ laidR v, isWord x v.cells.length = true := fun x hx => hk.knownWords x ((laid_mem v x).1 hx)
theorem VR.laidU {v : Vw} (hr : VR v) : ∀ x ∈ laidR v, Gp.u64 x := fun x hx => hr.knownU x ((laid_mem v x).1 hx)
theorem holdsF_ref {v : Vw} (hk : VOk v) (i : Nat) (hi : i < v.cells.length) (h : badR v i = true) (hf : ∀ j, j < i → badR v j = false) : holdsF v = some i := by
  refine find_at i (by rw [← badR_eq hk i hi]; exact h) (fun j hj => ?_) _ hi
  rw [← badR_eq hk j (by omega)]; exact hf j hj
theorem holdsF_none {v : Vw} (hk : VOk v) (hf : ∀ j, j < v.cells.length → badR v j = false) : holdsF v = none :=
  find_none _ (fun j hj => by rw [← badR_eq hk j hj]; exact hf j hj)
end Go.Proofs.YtlhhcocdhkbdnaaDoor.L13

set_option linter.unusedVariables false
set_option linter.unusedSimpArgs false
set_option maxRecDepth 100000
namespace Go.Proofs.YtlhhcocdhkbdnaaDoor.L13
open Go.RowKit Go.Proofs.YtlhhcocdhkbdnaaDoor.Wd Go.Proofs.YtlhhcocdhkbdnaaDoor.Hp Go.Proofs.YtlhhcocdhkbdnaaDoor.Gp Go.Proofs.YtlhhcocdhkbdnaaDoor.Sm Go.Proofs.YtlhhcocdhkbdnaaDoor.Gr Go.Proofs.YtlhhcocdhkbdnaaDoor.Bp
theorem rdF_ofR {w : World} {ao : Option Addr} {m : Nat} {xs : List Value} (h : Hp.Rd w ao m xs) : RdF w ao m xs [] := ⟨h.1, h.2.imp id fun ⟨b, off, e, hj⟩ => ⟨b, off, e, by simp, hj⟩⟩
set_option maxHeartbeats 4000000 in
theorem Holds13_any (w : World) (a : VA) (v : Vw) (hb : Bnd w) (hv : VM w a v) (hr : VR v) :
    Calls Tryd.prog 63 #[.agg (a.arr v)] w (HPost (holdsB v) (holdsI v) (holdsE v) w) := by
  obtain ⟨W, hW⟩ : ∃ W, W = w.alloc (.cells (a.arr v) 65) := ⟨_, rfl⟩
  have C0 : Ch [] w W := by rw [hW]; exact (Ch.refl _ _).alloc _
  have hbx : W.heap[w.heap.size]? = some (.cells (a.arr v) 65 (0, 0)) := by rw [hW]; exact heap_new w _
  have HBX := Lib.hid hbx
  have KX : Hid (∀ w1 : World, Ch [] W w1 → w1.cell? ⟨w.heap.size, 0, none⟩ = some (.slice a.ac v.cells.length a.cc) ∧ w1.cell? ⟨w.heap.size, 1, none⟩ = some (.int .u8 v.ph) ∧ w1.cell? ⟨w.heap.size, 2, none⟩ = some (.int .i64 v.sw) ∧ w1.cell? ⟨w.heap.size, 3, none⟩ = some (.slice a.ag v.grey.length a.cg) ∧ w1.cell? ⟨w.heap.size, 4, none⟩ = some (.slice a.agl v.globals.length a.cgl) ∧ w1.cell? ⟨w.heap.size, 5, none⟩ = some (.int .i64 v.laid) ∧ w1.cell? ⟨w.heap.size, 6, none⟩ = some (.slice a.al v.lanes.length a.cl)) := Lib.hid (fun w1 h1 => by
    have hh := h1.heap HBX.out (by simp)
    unfold VA.arr at hh
    exact ⟨cell_at hh, cell_at hh, cell_at hh, cell_at hh, cell_at hh, cell_at hh, cell_at hh⟩)
  have n1 := hr.n1
  have n3 := hr.n3
  have n4 := hr.n4
  have n5 := hr.n5
  have G := Guarded13_any W a v (Bnd.ch hb C0 (by simp)) (hv.ch C0) hr
  obtain ⟨i0, hi, he⟩ := Option.map_eq_some_iff.1 infoWord
  simp only [Prod.mk.injEq] at he
  obtain ⟨hz0, hz1, hz2⟩ := he
  have HRC := Lib.hid (fun (w1 : World) (h1 : Ch [] W w1) (hk : VOk v) (ao : Option Addr) (cap : Nat) (hrd : RdF w1 ao (rootsL v).length (ints .u64 (rootsL v)) []) => R10.Reach_any w1 a.ac a.cc v.cells ao (rootsL v).length cap (rootsL v) (by omega) (by have := rt_len v v.lanes.length; unfold rootsL; omega) (hv.ch (C0.trans' h1)).cells hrd hr.cells hr.rootU (hk.may hk.rootWords))
  have HC0 := Lib.hid C0
  have HV := Lib.hid hv
  have HR := Lib.hid hr
  have HLU := Lib.hid (VR.laidU hr)
  have hmk : ∀ w : World, _ := fun w => run_make_bools w v.cells.length (by omega)
  have HSL : Hid (∀ j, (rt v j).length ≤ 200000) := Lib.hid (fun j => by have := rt_len v j; omega)
  have HSA : Hid (∀ j, (lA v j).length ≤ 200000) := Lib.hid (fun j => by have := lA_len v j; omega)
  have HSB : Hid (∀ j, (lB v j).length ≤ 400000) := Lib.hid (fun j => by have := lB_len v j; omega)
  have HE0 : Hid (rt v 0 = v.globals) := Lib.hid (by simp [rt])
  have HE1 : Hid (lA v 0 = v.globals.take v.laid.toNat) := Lib.hid (by simp [lA])
  have HE2 : Hid (lB v 0 = lA v v.lanes.length) := Lib.hid (by simp [lB])
  have HE3 := Lib.hid (lB_all v)
  unfold VA.arr at hW G ⊢
  unfold GdPost at G
  obtain ⟨k0, k1, k2, k3, k4, k5, k6⟩ := KX.out W (Ch.refl _ _)
  clear hbx C0
  have HRE : Hid (∀ (b : Bool) (i : Nat) (er : Int) (w' : World), holdsB v = b → holdsI v = i → holdsE v = er → Ch [] w w' → HPost (holdsB v) (holdsI v) (holdsE v) w (.returned (.tuple #[.bool b, .int .i64 (i : Int), .int .i64 er])) w') := Lib.hid (fun b i er w' h1 h2 h3 h4 => by rw [h1, h2, h3]; exact ⟨rfl, h4⟩)
  have et : Tryd.prog.elem 62 = 24 := by kernel_rfl
  have hsl := fun (l : Nat) (h1 : l ≤ v.globals.length) => slice_to (P := Tryd.prog) 62 24 (by rw [et]; exact Tryd.underlying62) et i0 hi hz1 a.agl v.globals.length a.cgl l h1 hv.capg
  have HSLC := Lib.hid hsl
  clear hv hr hsl et
  generalize HPost (holdsB v) (holdsI v) (holdsE v) w = R at *
  obtain ⟨n, hn⟩ : ∃ n, n = v.cells.length := ⟨_, rfl⟩
  have HN := Lib.hid hn
  rw [← hn] at k0 HRC KX hmk hW G n1 HE3 ⊢
  cases hm : mayV v
  · rw [hm] at G
    have HM := Lib.hid hm
    clear hm hn
    generalize v.globals.length = ng at *
    generalize v.grey.length = gl at *
    generalize v.lanes.length = nl at *
    go_enter Tryd.func63, Tryd.ntmps63
    go_wp2_with fail
    rw [← hW]
    refine G.mono ?_
    rintro e w2 ⟨h2, hg⟩
    obtain ⟨_, rfl⟩ := hg.resolve_right (fun h => by simp at h)
    clear hW k0 k1 k2 k3 k4 k5 k6 hg
    go_wp2_with fail
    go_ret3
    exact HRE.out _ _ _ _ (by simp [holdsB, HM.out]) (by simp [holdsI, HM.out]) (by simp [holdsE, HM.out]) (HC0.out.trans' h2)
  · rw [hm] at G
    have HM := Lib.hid hm
    have HOK := Lib.hid (mayV_ok hm)
    have HLW := Lib.hid (VOk.laidWords (mayV_ok hm))
    clear hm hn
    obtain ⟨ng, hng⟩ : ∃ ng, ng = v.globals.length := ⟨_, rfl⟩
    obtain ⟨nl, hnl⟩ : ∃ nl, nl = v.lanes.length := ⟨_, rfl⟩
    have HNG := Lib.hid hng
    have HNL := Lib.hid hnl
    obtain ⟨hl0, hl1⟩ := HOK.out.laid
    obtain ⟨ld, hld⟩ : ∃ ld : Nat, v.laid = ld := ⟨v.laid.toNat, by omega⟩
    have HLD : Hid (v.laid.toNat = ld) := Lib.hid (by omega)
    rw [← hng] at k4 KX hW G n3 HSLC hl1 ⊢
    rw [← hnl] at k6 KX hW G n4 HE2 ⊢
    rw [hld] at hl0 hl1 k5 KX hW G ⊢
    clear hng hnl hld
    generalize v.grey.length = gl at *
    go_enter Tryd.func63, Tryd.ntmps63
    go_wp2_with fail
    rw [← hW]
    refine G.mono ?_
    rintro e w2 ⟨h2, hg⟩
    obtain ⟨_, m1, m2, rfl, g1, g2, g3, g4⟩ := hg.resolve_left (fun h => by simp at h)
    have H2 := Lib.hid h2
    have HM1 := Lib.hid g1
    have HM2 := Lib.hid g2
    clear hW k0 k1 k2 k3 k4 k5 k6 G hg g1 g2 g3 g4
    obtain ⟨k0, k1, k2, k3, k4, k5, k6⟩ := KX.out w2 h2
    have ON := on13_any w2 v.ph
    clear h2
    cases hon : onP v.ph
    · rw [hon] at ON
      have HON := Lib.hid hon
      clear hon
      go_wp2_with fail
      refine ON.mono ?_
      rintro e w3 ⟨rfl, rfl⟩
      clear k0 k1 k2 k3 k4 k5 k6
      go_wp2_with fail
      go_ret3
      exact HRE.out _ 0 _ _ (by simp [holdsB, HM.out, HON.out]) (by simp [holdsI, HM.out, HON.out]) (by simp [holdsE, HM.out]) (HC0.out.trans' H2.out)
    · rw [hon] at ON
      have HON := Lib.hid hon
      clear hon
      obtain ⟨so, sc, hs1, hs2, hs3⟩ := HSLC.out ld (by omega)
      have hglb := (HV.out.ch (HC0.out.trans' H2.out)).globals
      rw [← HNG.out] at hglb
      have HGB := Lib.hid hglb.rd
      have H1C := Lib.hid (ints_one .u64 v.globals)
      have HTK := Lib.hid (fun (w1 : World) (h1 : Ch [] w2 w1) => (hs3 w1 .u64 v.globals (hglb.ch h1 (by simp) (T' := []))).rd)
      have H1D := Lib.hid (ints_one .u64 (v.globals.take ld))
      have HG0 := Lib.hid (G2.start w2)
      have HLG : Hid (v.globals.length = ng) := Lib.hid HNG.out.symm
      have HLT : Hid ((v.globals.take ld).length = ld) := Lib.hid (by rw [List.length_take, HLG.out]; omega)
      clear hs3 hglb HSLC
      go_wp2_with fail
      refine ON.mono ?_
      rintro e w3 ⟨rfl, rfl⟩
      clear ON
      go_wp2_with (at_builtin; go_loud (refine wpList_append_list _ rfl _ _ 62 rfl 24 i0 _ 1 8 Tryd.underlying62 hi hz0 hz1 hz2 rfl (by decide) rfl HG0.out.a.row a.agl ng a.cgl rfl (ints .u64 v.globals) (by have := HGB.out; rwa [Nat.mul_one]) H1C.out (by unfold maxLen; simp; omega) (by simp; omega) ?_))
      intro v' w4 lq' hr4 hc4 hq4
      have S4 := Lib.hid (HG0.out.pushA (M := v.globals) (by rw [HLG.out]; simpa using hr4) hc4 hq4)
      have CX4 : Hid (Ch [] _ w4) := Lib.hid hc4
      obtain ⟨ao5, cap5, rfl, _⟩ := hr4.rd
      have H4 := Lib.hid (H2.out.trans' hc4)
      clear hr4 hc4 hq4 HG0 k0 k1 k2 k3 k4 k5 k6
      obtain ⟨k0, k1, k2, k3, k4, k5, k6⟩ := KX.out w4 H4.out
      go_wp2_with (at_builtin; go_loud (refine wpList_append_list _ rfl _ _ 62 rfl 24 i0 _ 1 8 Tryd.underlying62 hi hz0 hz1 hz2 rfl (by decide) rfl S4.out.b.row so ld sc rfl (ints .u64 (v.globals.take ld)) (by have := HTK.out _ CX4.out; rwa [Nat.mul_one]) H1D.out (by unfold maxLen; simp; omega) (by simp; omega) ?_))
      intro v' w5 lq2 hr4 hc4 hq4
      have S5 := Lib.hid (S4.out.pushB (M := v.globals.take ld) (by rw [HLT.out]; simpa using hr4) hc4 hq4)
      obtain ⟨ao6, cap6, rfl, _⟩ := hr4.rd
      clear hr4 hc4 hq4 S4 CX4 k0 k1 k2 k3 k4 k5 k6 hs1 hs2 HTK H1D H1C HGB
      go_wp2_with fail
      have HS5 : Hid (G2 w3 w5 (.slice ao5 (rt v 0).length cap5) (.slice ao6 (lA v 0).length cap6) (rt v 0) (lA v 0) lq' lq2) := Lib.hid (by
        have := S5.out
        simp only [List.nil_append] at this
        rw [HE0.out, HE1.out, HLD.out, HLG.out, HLT.out]
        simpa using this)
      clear S5
      go_loopw [11, 9, 10] (fun i rv lv wr => ∃ (j : Nat) (p q : List Nat), i = .int .i64 j ∧ j ≤ nl ∧ G2 w3 wr rv lv (rt v j) (lA v j) p q) (fun i _ _ _ => nl - (intOf i).toNat)
      case atStart =>
        refine ⟨0, lq', lq2, rfl, by omega, ?_⟩
        have := HS5.out
        rw [HE0.out, HE1.out, HLD.out, HLG.out, HLT.out] at this
        rw [HE0.out, HE1.out, HLD.out]
        simpa using this
      case round =>
        obtain ⟨j, p, q, rfl, hj, hg⟩ := hrel
        clear HS5
        obtain ⟨ar, cr, rfl, l1, l2, _⟩ := hg.a.row.rd
        obtain ⟨al, cl, rfl, l3, l4, _⟩ := hg.b.row.rd
        have HG := Lib.hid hg
        have HCW := Lib.hid (HC0.out.trans' (H2.out.trans' hg.a.ch))
        obtain ⟨k0, k1, k2, k3, k4, k5, k6⟩ := KX.out wr (H2.out.trans' hg.a.ch)
        have hle := HSL.out j
        have hle2 := HSA.out j
        clear hg
        by_cases hlt : j < nl
        · as_aux_lemma =>
          have hjl : j < v.lanes.length := by rw [← HNL.out]; exact hlt
          have ltJ : (j : Int) < nl := by omega
          obtain ⟨b, off, hal, c1, c2, c3⟩ := (HV.out.ch HCW.out).lane j hjl
          have hm : (v.lanes.getD j ln0).roots.length ≤ 100000 := by have := rootsN_mem (lane_mem hjl); omega
          have HRD := Lib.hid (fun (w6 : World) (h6 : Ch [] w w6) => ((HV.out.ch h6).roots j hjl).rd)
          have HNX := Lib.hid (rt_next v j hjl)
          have HNA := Lib.hid (lA_next v j hjl)
          have HCF : Hid (∀ w6, Ch [] w w6 → w6.cell? ⟨b, off + j * 3, none⟩ = some (.slice (a.la j) (v.lanes.getD j ln0).roots.length (a.lc j)) ∧ w6.cell? ⟨b, off + j * 3 + 1, none⟩ = some (.bool (v.lanes.getD j ln0).sc) ∧ w6.cell? ⟨b, off + j * 3 + 2, none⟩ = some (.bool (v.lanes.getD j ln0).en)) := Lib.hid (fun w6 h6 => by
            obtain ⟨b', off', hal', d⟩ := (HV.out.ch h6).lane j hjl
            rw [hal] at hal'
            simp only [Option.some.injEq, Addr.mk.injEq, and_true] at hal'
            obtain ⟨rfl, rfl⟩ := hal'
            exact d)
          have HKW : Hid (∀ w6, Ch [] w3 w6 → w6.cell? ⟨w.heap.size, 6, none⟩ = some (.slice (some ⟨b, off, none⟩) nl a.cl)) := Lib.hid (fun w6 h6 => by rw [← hal]; exact (KX.out w6 (H2.out.trans' h6)).2.2.2.2.2.2)
          rw [hal] at k6
          rw [hal]
          clear hal hjl k0 k1 k2 k3 k4 k5
          generalize v.lanes.getD j ln0 = x at *
          obtain ⟨xr, xs, xe⟩ := x
          simp only at hm c1 c2 c3 HRD HNX HCF
          unfold sr at HNA
          simp only at HNA
          generalize hR1 : rt v j = R1 at *
          generalize hL : lA v j = L at *
          have HLL := Lib.hid (And.intro hR1 hL)
          clear hL hR1
          generalize hnR : R1.length = nR at *
          generalize hnL : L.length = nL at *
          have HNN := Lib.hid (And.intro hnR hnL)
          clear hnL hnR
          generalize hxl : xr.length = xl at *
          have HXL := Lib.hid hxl
          clear hxl
          generalize a.la j = xa at *
          generalize a.lc j = xcap at *
          have hr1 := HG.out.a.row
          rw [HNN.out.1] at hr1
          have HR1 := Lib.hid hr1
          have H1C := Lib.hid (ints_one .u64 xr)
          clear hr1
          go_wp2_with (at_builtin; go_loud (refine wpList_append_list _ rfl _ _ 62 rfl 24 i0 _ 1 8 Tryd.underlying62 hi hz0 hz1 hz2 rfl (by decide) rfl HR1.out xa xl xcap rfl (ints .u64 xr) (by have := HRD.out _ HCW.out; rwa [Nat.mul_one]) H1C.out (by unfold maxLen; omega) (by omega) ?_))
          intro v' w6 p' hr4 hc4 hq4
          have S6 := Lib.hid (HG.out.pushA (M := xr) (by rw [HNN.out.1, HXL.out]; exact hr4) hc4 hq4)
          obtain ⟨ao7, cap7, rfl, _⟩ := hr4.rd
          have HCW6 := Lib.hid (HC0.out.trans' (H2.out.trans' S6.out.a.ch))
          have k6 := HKW.out w6 S6.out.a.ch
          obtain ⟨c1, c2, c3⟩ := HCF.out w6 HCW6.out
          clear hr4 hc4 hq4 HR1 HG
          cases xs
          · simp only [Bool.false_eq_true, if_false, List.append_nil] at HNA
            go_wp2_with fail
            go_roundw
            case rel => exact ⟨j + 1, p', q, by go_num, by omega, by rw [HNX.out, HNA.out]; exact S6.out⟩
            case measure => simp [intOf]; omega
          · simp only [if_true] at HNA
            have hr2 := S6.out.b.row
            rw [HNN.out.2] at hr2
            have HR2 := Lib.hid hr2
            clear hr2
            go_wp2_with (at_builtin; go_loud (refine wpList_append_list _ rfl _ _ 62 rfl 24 i0 _ 1 8 Tryd.underlying62 hi hz0 hz1 hz2 rfl (by decide) rfl HR2.out xa xl xcap rfl (ints .u64 xr) (by have := HRD.out _ HCW6.out; rwa [Nat.mul_one]) H1C.out (by unfold maxLen; omega) (by omega) ?_))
            intro v' w7 q' hr4 hc4 hq4
            have S7 := Lib.hid (S6.out.pushB (M := xr) (by rw [HNN.out.2, HXL.out]; exact hr4) hc4 hq4)
            obtain ⟨ao8, cap8, rfl, _⟩ := hr4.rd
            clear hr4 hc4 hq4 S6
            go_wp2_with fail
            go_roundw
            case rel => exact ⟨j + 1, p', q', by go_num, by omega, by rw [HNX.out, HNA.out]; exact S7.out⟩
            case measure => simp [intOf]; omega
        · as_aux_lemma =>
          obtain rfl : nl = j := by omega
          have hrl : (rt v nl) = rootsL v := by unfold rootsL; rw [← HNL.out]
          have Z0 : Hid (G2 w3 wr (.slice ar (rootsL v).length cr) (.slice al (lA v nl).length cl) (rootsL v) (lB v 0) p q) := Lib.hid (by rw [HE2.out, ← hrl]; exact HG.out)
          rw [hrl] at hle l1 ⊢
          obtain ⟨rl, hrl2⟩ : ∃ rl, rl = (rootsL v).length := ⟨_, rfl⟩
          have HRL := Lib.hid hrl2
          rw [← hrl2] at Z0 hle l1 ⊢
          clear HG hrl hrl2
          generalize (lA v nl).length = len0 at *
          go_wp2_with fail
          clear k0 k1 k2 k3 k4 k5 k6
          go_loopw [12, 10] (fun i lv wr => ∃ (j : Nat) (q : List Nat), i = .int .i64 j ∧ j ≤ n ∧ G2 w3 wr (.slice ar rl cr) lv (rootsL v) (lB v j) p q) (fun i _ _ => n - (intOf i).toNat)
          case atStart => exact ⟨0, q, rfl, by omega, Z0.out⟩
          case round =>
            obtain ⟨j, q, rfl, hj, hg⟩ := hrel
            clear Z0
            obtain ⟨al, cl, rfl, l3, l4, _⟩ := hg.b.row.rd
            have HG := Lib.hid hg
            have HC := Lib.hid (H2.out.trans' hg.a.ch)
            have HCW := Lib.hid (HC0.out.trans' (H2.out.trans' hg.a.ch))
            have hle2 := HSB.out j
            obtain ⟨k0, k1, k2, k3, k4, k5, k6⟩ := KX.out _ HC.out
            clear hg
            by_cases hlt : j < n
            · as_aux_lemma =>
              have hjl : j < v.cells.length := by rw [← HN.out]; exact hlt
              have ltJ : (j : Int) < n := by omega
              obtain ⟨bh, offh, hab, _, hjh⟩ := HV.out.cells.2.resolve_left (by omega)
              have HA : Hid (∀ W', Ch [] w W' → ∀ t, t < 4 → W'.cell? ⟨bh, offh + (j * 4 + t), none⟩ = (celV (v.cells.getD j z))[t]?) := Lib.hid (fun W' hcW t ht => by
                have h3 := (hjh (j * 4 + t) (by omega)).trans (flat_get v.cells j t hjl ht)
                rw [List.getElem?_eq_getElem (by simp [celV]; omega)] at h3 ⊢
                exact hcW.cell h3 (by simp))
              have d0 := HA.out wr HCW.out 0 (by omega)
              have d1 := HA.out wr HCW.out 1 (by omega)
              have HNX := Lib.hid (lB_next v j hjl)
              generalize v.cells.getD j z = y at *
              obtain ⟨ck, cc, ca, cb⟩ := y
              have HA2 : Hid (∀ W', Ch [] w W' → W'.cell? ⟨bh, offh + j * 4 + 2, none⟩ = some (.int .u64 ca)) := Lib.hid (fun W' hc => HA.out W' hc 2 (by omega))
              have HA3 : Hid (∀ W', Ch [] w W' → W'.cell? ⟨bh, offh + j * 4 + 3, none⟩ = some (.int .u64 cb)) := Lib.hid (fun W' hc => HA.out W' hc 3 (by omega))
              have HKX : Hid (∀ w1 : World, Ch [] W w1 → w1.cell? ⟨w.heap.size, 0, none⟩ = some (.slice (some ⟨bh, offh, none⟩) n a.cc)) := Lib.hid (fun w1 h1 => by rw [← hab]; exact (KX.out w1 h1).1)
              simp only [celV, List.getElem?_cons_zero, List.getElem?_cons_succ, Nat.add_zero, ← Nat.add_assoc] at d0 d1
              unfold bw blackC at HNX
              simp only at HNX
              rw [hab] at k0 ⊢
              clear hab hjh HA hjl k1 k2 k3 k4 k5 k6
              by_cases hgr : ck = 0 ∨ cc ≠ 2
              · have e1 : (ck != 0 && cc == 2) = false := by
                  rcases hgr with h | h
                  · simp [h]
                  · simp [h]
                rw [e1] at HNX
                simp only [Bool.false_eq_true, if_false, List.append_nil] at HNX
                clear e1
                by_cases k00 : ck = 0
                · subst k00
                  clear hgr
                  go_wp2_with fail
                  go_roundw
                  case rel => exact ⟨j + 1, q, by go_num, by omega, by rw [HNX.out]; exact HG.out⟩
                  case measure => simp [intOf]; omega
                · have k0' : (ck != 0) = true := by simpa using k00
                  have c1' : (cc == 2) = false := by
                    have := hgr.resolve_left k00
                    simpa using this
                  clear hgr k00
                  go_wp2_with fail
                  go_roundw
                  case rel => exact ⟨j + 1, q, by go_num, by omega, by rw [HNX.out]; exact HG.out⟩
                  case measure => simp [intOf]; omega
              · have hk0 : ck ≠ 0 := fun h => hgr (.inl h)
                have hc1 : cc = 2 := Decidable.byContradiction fun h => hgr (.inr h)
                subst hc1
                have k0' : (ck == 0) = false := by simpa using hk0
                have k0n : (ck != 0) = true := by simpa using hk0
                rw [k0n] at HNX
                simp only [Bool.true_and, beq_self_eq_true, if_true] at HNX
                clear hgr hk0
                go_wp2_with fail
                generalize hL : lB v j = L at *
                have HL := Lib.hid hL
                clear hL
                generalize hnL : L.length = nL at *
                have HNLL := Lib.hid hnL
                clear hnL
                have HCWr : Hid (Ch [] w wr) := HCW
                have HG2 := Lib.hid ((HG.out.chg (Ch.refl [] wr).drew).chg ((Ch.refl [] _).alloc (.cells #[.int .u64 ca, .int .u64 cb] 24)))
                have hr1 := HG2.out.b.row
                rw [HNLL.out] at hr1
                have HR1 := Lib.hid hr1
                have HN2 := Lib.hid (newL (w := wr.drew) (b := wr.heap.size) rfl [.int .u64 ca, .int .u64 cb] 24)
                have FIN : Hid (∀ (w6 : World) (v' : Value) (lq' : List Nat), Row w6 24 1 v' lq' (nL + 2) (ints .u64 L ++ [.int .u64 ca, .int .u64 cb]) → Ch q (wr.drew.alloc (.cells #[.int .u64 ca, .int .u64 cb] 24)) w6 → (lq' = q ∨ ∃ q', lq' = [q'] ∧ (wr.drew.alloc (.cells #[.int .u64 ca, .int .u64 cb] 24)).heap.size ≤ q' ∧ q' < w6.heap.size) →
                    G2 w3 w6 (.slice ar rl cr) v' (rootsL v) (lB v (j + 1)) p lq' ∧ Ch [] w w6 ∧ Ch [] W w6) := Lib.hid (fun w6 v' lq' hr4 hc4 hq4 => by
                  have S4 := HG2.out.pushB (M := [ca, cb]) (by rw [HNLL.out]; exact hr4) hc4 hq4
                  rw [HNX.out]
                  exact ⟨S4, HC0.out.trans' (H2.out.trans' S4.a.ch), H2.out.trans' S4.a.ch⟩)
                clear hr1 HG2 d0 d1 HNX
                go_region_held3 (fun w' => (w'.cell? ⟨bh, offh + j * 4 + 2, none⟩ = some (.int .u64 ca) ∧ w'.cell? ⟨bh, offh + j * 4 + 3, none⟩ = some (.int .u64 cb)) ∧ w'.cell? ⟨w.heap.size, 0, none⟩ = some (.slice (some ⟨bh, offh, none⟩) n a.cc)) (refine ⟨⟨HA2.out _ ?_, HA3.out _ ?_⟩, HKX.out _ ?_⟩ <;> repeat (first | exact HCWr.out | exact HC.out | exact HCW6.out | exact HCW7.out | apply Ch.drew | apply Ch.alloc))
                  (first | (refine step_append_row (by rfl) _ _ 62 (by rfl) 24 i0 (.int .u64 0) 1 8 Tryd.underlying62 hi hz0 hz1 hz2 rfl (by decide) (by rfl) HR1.out ⟨wr.heap.size, 0, none⟩ 2 2 [.int .u64 ca, .int .u64 cb] (by rfl) rfl HN2.out (one2 _ _ _ _) (by unfold maxLen; omega) (by omega) ?_; intro v' w6 lq' hr4 hc4 hq4; have Z4 := FIN.out w6 v' lq' hr4 hc4 hq4; obtain ⟨ao5, cap5, rfl, _⟩ := hr4.rd; have HCW6 := Lib.hid Z4.2.1; have HCW7 := Lib.hid Z4.2.2; have Z5 := Lib.hid Z4.1; have K2 := HA2.out w6 Z4.2.1; have K3 := HA3.out w6 Z4.2.1; have K4 := HKX.out w6 Z4.2.2; clear hr4 hc4 hq4 Z4))
                all_goals
                  go_wp2_with fail
                  go_roundw
                  case rel => exact ⟨j + 1, lq', by go_num, by omega, Z5.out⟩
                  case measure => simp [intOf]; omega
            · as_aux_lemma =>
              obtain rfl : n = j := by omega
              rw [HE3.out] at HG l3 hle2 ⊢
              have hra := HG.out.a.row.rd
              obtain ⟨_, _, he2, _, _, hrd⟩ := hra
              simp only [Value.slice.injEq, true_and] at he2
              obtain ⟨rfl, rfl, rfl⟩ := he2
              rw [Nat.mul_one] at hrd
              have RC := HRC.out wr HC.out HOK.out ar cr (rdF_ofR hrd)
              have HKL : (laidR v).length ≤ 400000 := hle2
              clear HRL hle l1
              generalize (rootsL v).length = rl at *
              clear hrd
              go_wp2_with fail
              refine RC.mono ?_
              rintro e w7 ⟨m3, rfl, g1, g2, g3⟩
              have H7 := Lib.hid (HC.out.trans' g2)
              have X7 := Lib.hid (HG.out.a.ch.trans' g2)
              have S7 := Lib.hid (HG.out.b.chg g2)
              have HM3 := Lib.hid g1
              clear RC g1 g2 g3 k0 k1 k2 k3 k4 k5 k6 HRC HG HCW HC
              have CA : Ch [] w7 (w7.alloc (.cells (bv (List.replicate n false)).toArray 4)) := (Ch.refl _ _).alloc _
              obtain ⟨k0, k1, k2, k3, k4, k5, k6⟩ := KX.out w7 H7.out
              have HM4 := Lib.hid (heap_new w7 (.cells (bv (List.replicate n false)).toArray 4))
              have S8 := Lib.hid (S7.out.chg CA)
              have H8 := Lib.hid (H7.out.trans' CA)
              have X8 := Lib.hid (X7.out.trans' CA)
              have Y8 := Lib.hid CA
              have HKQ : Hid (w7.heap.size ∉ q) := Lib.hid (fun hm => by have := (S7.out.fr _ hm).2; omega)
              have HW7 : Hid (W.heap.size ≤ w7.heap.size) := Lib.hid H7.out.size
              have HW47 : Hid (w3.heap.size ≤ w7.heap.size) := Lib.hid X7.out.size
              have HKW : Hid (∀ x ∈ laidR v, Gp.u64 x ∧ (isRef x = true → (cellN x).toNat < n)) := Lib.hid (fun x hx => ⟨HLU.out x hx, fun hr => by rw [HN.out]; exact isWord_ok (HLW.out x hx) hr⟩)
              have HNF : Hid (namedL n ((laidR v).take 0) = List.replicate n false) := Lib.hid rfl
              have HEND : Hid (namedL n ((laidR v).take (laidR v).length) = namedL n (laidR v)) := Lib.hid (by rw [List.take_length])
              have HTK : Hid (∀ j, j < (laidR v).length → namedL n ((laidR v).take (j + 1)) = nm (namedL n ((laidR v).take j)) ((laidR v).getD j 0)) := Lib.hid (fun j hj => by rw [take_snoc _ _ 0 hj, namedL_snoc])
              have HLN : Hid (∀ j, (namedL n ((laidR v).take j)).length = n) := Lib.hid (fun j => namedL_len n _)
              have hrk := S8.out.row.rd
              obtain ⟨k8, hk8⟩ : ∃ k8, k8 = (laidR v).length := ⟨_, rfl⟩
              have HK8 := Lib.hid hk8
              rw [← hk8] at HKL HEND HTK l3 ⊢
              obtain ⟨w8, hw8⟩ : ∃ w8, w8 = w7.alloc (.cells (bv (List.replicate n false)).toArray 4) := ⟨_, rfl⟩
              rw [← hw8] at HM4 S8 H8 X8 Y8
              have HM7 : Hid (∀ wr, Ch [w7.heap.size] w8 wr → Rd wr al k8 (ints .u64 (laidR v))) := Lib.hid (fun wr hc => by
                have := (S8.out.row.ch hc (fun q hq hm => HKQ.out (by simp at hm; exact hm ▸ hq))).rd
                obtain ⟨_, _, he, _, _, hh⟩ := this
                simp only [Value.slice.injEq] at he
                obtain ⟨rfl, _, _⟩ := he
                rw [Nat.mul_one, ← HK8.out] at hh
                exact hh)
              clear hrk hk8 CA S7
              go_wp2_with fail
              rw [← hw8]
              clear hw8 k0 k1 k2 k3 k4 k5 k6 hmk
              go_loopw [15] (fun i wr => ∃ j : Nat, i = .int .i64 j ∧ j ≤ k8 ∧ wr.heap[w7.heap.size]? = some (.cells (bv (namedL n ((laidR v).take j))).toArray 4 (0, 0)) ∧ Ch [w7.heap.size] w8 wr) (fun i _ => k8 - (intOf i).toNat)
              case atStart => exact ⟨0, rfl, by omega, by rw [HNF.out]; exact HM4.out, Ch.refl _ _⟩
              case round =>
                obtain ⟨j, rfl, hj, hb, hc⟩ := hrel
                by_cases hlt : j < k8
                · as_aux_lemma =>
                  have hjl : j < (laidR v).length := by rw [← HK8.out]; exact hlt
                  obtain ⟨b, off, rfl, hjj⟩ := (HM7.out _ hc).2.resolve_left (by omega)
                  have a1 := (hjj j hlt).trans (ints_get hjl)
                  have hx := HKW.out ((laidR v).getD j 0) (by rw [show (laidR v).getD j 0 = (laidR v)[j] by simp [List.getD, hjl]]; exact List.getElem_mem hjl)
                  have HNX := Lib.hid (HTK.out j hlt)
                  have hll := HLN.out j
                  generalize (laidR v).getD j 0 = x at *
                  generalize namedL n ((laidR v).take j) = ms at *
                  obtain ⟨hxu, hxc⟩ := hx
                  have CC := Rd.Cell_any wr x hxu.1 hxu.2
                  have hrg := cellN_range x
                  have ltJ : (j : Int) < k8 := by omega
                  have HBB := Lib.hid hb
                  have HC := Lib.hid hc
                  unfold nm at HNX
                  clear hjj hc hjl hxu
                  cases href : isRef x
                  · rw [href] at CC HNX
                    simp only [Bool.false_eq_true, if_false] at HNX
                    clear href hxc hrg hb
                    generalize cellN x = cv at *
                    go_wp2_with fail
                    refine CC.mono ?_
                    rintro e w9 ⟨rfl, rfl⟩
                    clear CC
                    go_wp2_with fail
                    go_roundw
                    case rel => exact ⟨j + 1, by go_num, by omega, by rw [HNX.out]; exact HBB.out, HC.out⟩
                    case measure => simp [intOf]; omega
                  · rw [href] at CC HNX
                    simp only [if_true] at HNX
                    have hcn := hxc href
                    obtain ⟨c, hcc⟩ : ∃ c : Nat, c = (cellN x).toNat := ⟨_, rfl⟩
                    have hcv : cellN x = (c : Int) := by omega
                    rw [← hcc] at hcn HNX
                    rw [hcv] at CC
                    have b1 := cell_at (i := c) hb
                    rw [bv_get (by rw [hll]; exact hcn)] at b1
                    have b2 := free_at (i := c) hb
                    have ltC : (c : Int) < n := by omega
                    clear href hxc hrg hcc hcv hb
                    go_wp2_with fail
                    refine CC.mono ?_
                    rintro e w9 ⟨rfl, rfl⟩
                    clear CC
                    go_wp2_with fail
                    go_roundw
                    case rel => exact ⟨j + 1, by go_num, by omega, by rw [HNX.out, ← bv_set]; exact heap_set HBB.out _, HC.out.setCell _ _ (.inl (by simp))⟩
                    case measure => simp [intOf]; omega
                · as_aux_lemma =>
                  obtain rfl : k8 = j := by omega
                  have HB9 : Hid (wr.heap[w7.heap.size]? = some (.cells (bv (namedL n (laidR v))).toArray 4 (0, 0))) := Lib.hid (by rw [← HEND.out]; exact hb)
                  have X9 : Hid (Ch [] w3 wr) := Lib.hid (X8.out.trans hc (fun q hq => .inr (by simp at hq; subst hq; exact HW47.out)))
                  have H9 : Hid (Ch [] W wr) := Lib.hid (H8.out.trans hc (fun q hq => .inr (by simp at hq; subst hq; exact HW7.out)))
                  have Y9 : Hid (Ch [] w7 wr) := Lib.hid (Y8.out.trans hc (fun q hq => .inr (by simp at hq; subst hq; exact Nat.le_refl _)))
                  obtain ⟨k0, k1, k2, k3, k4, k5, k6⟩ := KX.out wr H9.out
                  have N1 := Lib.hid (X9.out.heap HM1.out (by simp))
                  have N2 := Lib.hid (X9.out.heap HM2.out (by simp))
                  have N3 := Lib.hid (Y9.out.heap HM3.out (by simp))
                  obtain ⟨m4, hm4⟩ : ∃ m4, m4 = w7.heap.size := ⟨_, rfl⟩
                  rw [← hm4] at HB9 ⊢
                  have HBAD : Hid (∀ i, badR v i = (whiteC (v.cells.getD i z) && ((order v.cells (rootsL v)).1.getD i true && !(byL v).getD i true || (namedL n (laidR v)).getD i true && !(wellL v).getD i true))) := Lib.hid (fun i => by unfold badR; rw [HN.out])
                  have L1 : Hid ((byL v).length = n) := Lib.hid (by unfold byL; rw [walkF_len, HN.out])
                  have L2 : Hid ((wellL v).length = n) := Lib.hid (by unfold wellL; rw [walkF_len, HN.out])
                  have L3 : Hid ((order v.cells (rootsL v)).1.length = n) := Lib.hid (by rw [Gp.order_len (HOK.out.may HOK.out.rootWords), HN.out])
                  have L4 : Hid ((namedL n (laidR v)).length = n) := Lib.hid (namedL_len n _)
                  clear hb hc HM7 HTK HEND HNF HKW HM1 HM2 HM3 HM4 hm4 S8
                  go_wp2_with fail
                  clear k0 k1 k2 k3 k4 k5 k6
                  obtain ⟨wo, rfl⟩ : ∃ wo : World, wo = wr := ⟨_, rfl⟩
                  go_loopw [18, 8] (fun i b wr => ∃ (j : Nat) (b' : Bool), i = .int .i64 j ∧ b = .bool b' ∧ j ≤ n ∧ Ch [] wo wr ∧ ∀ i, i < j → badR v i = false) (fun i _ _ => n - (intOf i).toNat)
                  case atStart => exact ⟨0, true, rfl, rfl, by omega, Ch.refl _ _, fun i hi => absurd hi (by omega)⟩
                  case round =>
                    obtain ⟨j, b', rfl, rfl, hj, hc, hf⟩ := hrel
                    have HF := Lib.hid hf
                    have HC := Lib.hid hc
                    have HCH := Lib.hid (H9.out.trans' hc)
                    have HCW := Lib.hid (HC0.out.trans' (H9.out.trans' hc))
                    obtain ⟨k0, k1, k2, k3, k4, k5, k6⟩ := KX.out wr HCH.out
                    by_cases hlt : j < n
                    · as_aux_lemma =>
                      have hjl : j < v.cells.length := by rw [← HN.out]; exact hlt
                      have ltJ : (j : Int) < n := by omega
                      obtain ⟨bh, offh, hab, _, hjh⟩ := HV.out.cells.2.resolve_left (by omega)
                      have hA : ∀ t, t < 4 → wr.cell? ⟨bh, offh + (j * 4 + t), none⟩ = (celV (v.cells.getD j z))[t]? := fun t ht => by
                        have h3 := (hjh (j * 4 + t) (by omega)).trans (flat_get v.cells j t hjl ht)
                        rw [List.getElem?_eq_getElem (by simp [celV]; omega)] at h3 ⊢
                        exact HCW.out.cell h3 (by simp)
                      have d0 := hA 0 (by omega)
                      have d1 := hA 1 (by omega)
                      have d2 := hA 2 (by omega)
                      have d3 := hA 3 (by omega)
                      have HBJ := Lib.hid (HBAD.out j)
                      generalize v.cells.getD j z = y at *
                      obtain ⟨ck', cc', ca', cb'⟩ := y
                      simp only [celV, List.getElem?_cons_zero, List.getElem?_cons_succ, Nat.add_zero, ← Nat.add_assoc] at d0 d1 d2 d3
                      have WH := white13_any wr ck' cc' ca' cb'
                      have HGO : Hid (badR v j = false → ∀ i, i < j + 1 → badR v i = false) := Lib.hid (fun h i hi => by
                        by_cases e : i = j
                        · rw [e]; exact h
                        · exact HF.out i (by omega))
                      have HST : Hid (badR v j = true → ∀ w', Ch [] wo w' → R (.returned (.tuple #[.bool false, .int .i64 (j : Int), .int .i64 0])) w') := Lib.hid (fun h w' hcw => by
                        have hf2 : holdsF v = some j := holdsF_ref HOK.out j hjl h HF.out
                        exact HRE.out false j 0 w' (by simp [holdsB, HM.out, HON.out, hf2]) (by simp [holdsI, HM.out, HON.out, hf2]) (by simp [holdsE, HM.out]) (HC0.out.trans' (H9.out.trans' hcw)))
                      have HT : Hid (∀ w', Ch [] wo w' → w'.cell? ⟨m3, j, none⟩ = some (.bool ((order v.cells (rootsL v)).1.getD j true)) ∧ w'.cell? ⟨m1, j, none⟩ = some (.bool ((byL v).getD j true)) ∧ w'.cell? ⟨m4, j, none⟩ = some (.bool ((namedL n (laidR v)).getD j true)) ∧ w'.cell? ⟨m2, j, none⟩ = some (.bool ((wellL v).getD j true))) := Lib.hid (fun w' hcw =>
                        ⟨(cell_at (hcw.heap N3.out (by simp))).trans (bv_get (by rw [L3.out]; exact hlt)), (cell_at (hcw.heap N1.out (by simp))).trans (bv_get (by rw [L1.out]; exact hlt)), (cell_at (hcw.heap HB9.out (by simp))).trans (bv_get (by rw [L4.out]; exact hlt)), (cell_at (hcw.heap N2.out (by simp))).trans (bv_get (by rw [L2.out]; exact hlt))⟩)
                      rw [hab] at k0
                      rw [hab]
                      clear hab hjh hA hc hf hjl k1 k2 k3 k4 k5 k6
                      generalize whiteC ⟨ck', cc', ca', cb'⟩ = wh at *
                      generalize (order v.cells (rootsL v)).1.getD j true = lv at *
                      generalize (byL v).getD j true = by' at *
                      generalize (namedL n (laidR v)).getD j true = nv' at *
                      generalize (wellL v).getD j true = wv at *
                      go_wp2_with fail
                      refine WH.mono ?_
                      rintro e w9 ⟨rfl, h9⟩
                      have C9 := Lib.hid (HC.out.trans' h9)
                      obtain ⟨t1, t2, t3, t4⟩ := HT.out w9 C9.out
                      clear WH h9 d0 d1 d2 d3 HT
                      cases wh
                      · go_wp2_with fail
                        go_roundw
                        case rel => exact ⟨j + 1, false, by go_num, rfl, by omega, C9.out, HGO.out (by rw [HBJ.out]; rfl)⟩
                        case measure => simp [intOf]; omega
                      · cases lv
                        · cases nv'
                          · go_wp2_with fail
                            go_roundw
                            case rel => exact ⟨j + 1, true, by go_num, rfl, by omega, C9.out, HGO.out (by rw [HBJ.out]; rfl)⟩
                            case measure => simp [intOf]; omega
                          · cases wv
                            · go_wp2_with fail
                              go_ret3
                              exact HST.out (by rw [HBJ.out]; rfl) _ C9.out
                            · go_wp2_with fail
                              go_roundw
                              case rel => exact ⟨j + 1, true, by go_num, rfl, by omega, C9.out, HGO.out (by rw [HBJ.out]; rfl)⟩
                              case measure => simp [intOf]; omega
                        · cases by'
                          · go_wp2_with fail
                            go_ret3
                            exact HST.out (by rw [HBJ.out]; rfl) _ C9.out
                          · cases nv'
                            · go_wp2_with fail
                              go_roundw
                              case rel => exact ⟨j + 1, true, by go_num, rfl, by omega, C9.out, HGO.out (by rw [HBJ.out]; rfl)⟩
                              case measure => simp [intOf]; omega
                            · cases wv
                              · go_wp2_with fail
                                go_ret3
                                exact HST.out (by rw [HBJ.out]; rfl) _ C9.out
                              · go_wp2_with fail
                                go_roundw
                                case rel => exact ⟨j + 1, true, by go_num, rfl, by omega, C9.out, HGO.out (by rw [HBJ.out]; rfl)⟩
                                case measure => simp [intOf]; omega
                    · as_aux_lemma =>
                      obtain rfl : n = j := by omega
                      have hf2 : holdsF v = none := holdsF_none HOK.out (fun i hi => hf i (by rw [HN.out]; exact hi))
                      have Z : Hid (R (.returned (.tuple #[.bool true, .int .i64 0, .int .i64 0])) wr) := Lib.hid (HRE.out true 0 0 wr (by simp [holdsB, HM.out, hf2]) (by simp [holdsI, HM.out, HON.out, hf2]) (by simp [holdsE, HM.out]) HCW.out)
                      clear hf hc hf2
                      go_wp2_with fail
                      go_ret3
                      exact Z.out
end Go.Proofs.YtlhhcocdhkbdnaaDoor.L13
