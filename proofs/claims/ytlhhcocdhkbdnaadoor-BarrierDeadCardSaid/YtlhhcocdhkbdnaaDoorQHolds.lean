/-
  THE WALK of barrier.Holds.
-/
import Derived.Test.YtlhhcocdhkbdnaaDoorQGuard
import Derived.Test.YtlhhcocdhkbdnaaDoorQKnown
set_option linter.unusedVariables false
set_option linter.unusedSimpArgs false
set_option maxRecDepth 100000
namespace Go.Proofs.YtlhhcocdhkbdnaaDoor.Bp
open Go.RowKit Go.Proofs.YtlhhcocdhkbdnaaDoor.Wd Go.Proofs.YtlhhcocdhkbdnaaDoor.Hp Go.Proofs.YtlhhcocdhkbdnaaDoor.Gp Go.Proofs.YtlhhcocdhkbdnaaDoor.Sm Go.Proofs.YtlhhcocdhkbdnaaDoor.Gr
def rt (v : Vw) (j : Nat) : List Int := v.globals ++ (v.lanes.take j).flatMap Ln.roots
def rootsL (v : Vw) : List Int := rt v v.lanes.length
def liveL (v : Vw) : List Bool := walkF v.cells nofree (rootsL v)
def nm (s : List Bool) (x : Int) : List Bool := if isRef x then s.set (cellN x).toNat true else s
def namedL (n : Nat) (ws : List Int) : List Bool := ws.foldl nm (List.replicate n false)
def badH (v : Vw) (i : Nat) : Bool := whiteC (v.cells.getD i z) && ((liveL v).getD i true && !(byL v).getD i true || (namedL v.cells.length (knownL v)).getD i true && !(wellL v).getD i true)
def holdsF (v : Vw) : Option Nat := (List.range v.cells.length).find? (badH v)
def holdsB (v : Vw) : Bool := mayV v && (!onP v.ph || (holdsF v).isNone)
def holdsI (v : Vw) : Nat := if mayV v && onP v.ph then (holdsF v).getD 0 else 0
def holdsE (v : Vw) : Int := if mayV v then 0 else 130
theorem rt_next (v : Vw) (j : Nat) (hj : j < v.lanes.length) : rt v (j + 1) = rt v j ++ (v.lanes.getD j ln0).roots := by
  unfold rt; rw [take_snoc v.lanes j ln0 hj]; simp
theorem roots_len : ∀ l : List Ln, (l.flatMap Ln.roots).length = rootsN l
  | [] => rfl
  | x :: l => by rw [List.flatMap_cons, List.length_append, roots_len l]; simp [rootsN]
theorem rt_len (v : Vw) (j : Nat) : (rt v j).length ≤ v.globals.length + rootsN v.lanes := by
  unfold rt
  rw [List.length_append, roots_len]
  have := rootsN_take v.lanes j
  omega
theorem namedL_snoc (n : Nat) (l : List Int) (x : Int) : namedL n (l ++ [x]) = nm (namedL n l) x := by simp [namedL, List.foldl_append]
theorem nm_len (s : List Bool) (x : Int) : (nm s x).length = s.length := by unfold nm; split <;> simp
theorem namedL_len (n : Nat) (l : List Int) : (namedL n l).length = n := by
  unfold namedL
  suffices ∀ (l : List Int) (s : List Bool), (l.foldl nm s).length = s.length by rw [this]; simp
  intro l
  induction l with
  | nil => intro s; rfl
  | cons x l ih => intro s; rw [List.foldl_cons, ih, nm_len]
theorem find_none {p : Nat → Bool} : ∀ n, (∀ j, j < n → p j = false) → (List.range n).find? p = none := by
  intro n h
  rw [List.find?_eq_none]
  intro x hx
  rw [List.mem_range] at hx
  simp [h x hx]
theorem find_at {p : Nat → Bool} (k : Nat) (hp : p k = true) (h : ∀ j, j < k → p j = false) : ∀ n, k < n → (List.range n).find? p = some k
  | 0, hk => absurd hk (by omega)
  | n + 1, hk => by
    rw [List.range_succ, List.find?_append]
    by_cases e : k = n
    · subst e; rw [find_none k h]; simp [hp]
    · rw [find_at k hp h n (by omega)]; rfl
theorem VOk.knownWords {v : Vw} (hk : VOk v) : ∀ x ∈ knownL v, isWord x v.cells.length = true := by
  intro x hx
  unfold knownL kn2 kn1 at hx
  rw [List.mem_append, List.mem_append, List.mem_flatMap, List.mem_flatMap] at hx
  rcases hx with (hx | ⟨c, hc, hx⟩) | ⟨l, hl, hx⟩
  · exact hk.globals x (List.mem_of_mem_take hx)
  · unfold bw at hx
    split at hx
    · next hb =>
      unfold blackC at hb
      simp only [Bool.and_eq_true, bne_iff_ne] at hb
      have := hk.cells c (List.mem_of_mem_take hc)
      unfold cellOk rightW at this
      simp only [Bool.and_eq_true, Bool.or_eq_true, beq_iff_eq, List.all_cons, List.all_nil] at this
      have h2 := this.2.2.resolve_left hb.1
      simp at hx
      rcases hx with rfl | rfl
      · exact h2.1
      · exact h2.2.1
    · cases hx
  · unfold sr at hx
    split at hx
    · exact hk.roots l (List.mem_of_mem_take hl) x hx
    · cases hx
theorem VR.knownU {v : Vw} (hr : VR v) : ∀ x ∈ knownL v, Gp.u64 x := by
  intro x hx
  unfold knownL kn2 kn1 at hx
  rw [List.mem_append, List.mem_append, List.mem_flatMap, List.mem_flatMap] at hx
  rcases hx with (hx | ⟨c, hc, hx⟩) | ⟨l, hl, hx⟩
  · exact hr.globals x (List.mem_of_mem_take hx)
  · obtain ⟨_, _, _, _, h5, h6⟩ := hr.cells c (List.mem_of_mem_take hc)
    unfold bw at hx
    split at hx
    · simp at hx
      rcases hx with rfl | rfl
      · exact h5
      · exact h6
    · cases hx
  · unfold sr at hx
    split at hx
    · exact hr.roots l (List.mem_of_mem_take hl) x hx
    · cases hx
theorem VOk.rootWords {v : Vw} (hk : VOk v) : ∀ x ∈ rootsL v, isWord x v.cells.length = true := by
  intro x hx
  unfold rootsL rt at hx
  rw [List.mem_append, List.mem_flatMap] at hx
  rcases hx with hx | ⟨l, hl, hx⟩
  · exact hk.globals x hx
  · exact hk.roots l (List.mem_of_mem_take hl) x hx
theorem VR.rootU {v : Vw} (hr : VR v) : ∀ x ∈ rootsL v, Gp.u64 x := by
  intro x hx
  unfold rootsL rt at hx
  rw [List.mem_append, List.mem_flatMap] at hx
  rcases hx with hx | ⟨l, hl, hx⟩
  · exact hr.globals x hx
  · exact hr.roots l (List.mem_of_mem_take hl) x hx
/-- What Holds answers. -/
def HPost (b : Bool) (i : Nat) (er : Int) (w : World) (e : Ending) (w' : World) : Prop := e = .returned (.tuple #[.bool b, .int .i64 (i : Int), .int .i64 er]) ∧ Ch [] w w'
theorem bv_get {l : List Bool} {i : Nat} (h : i < l.length) : (bv l).toArray[i]? = some (.bool (l.getD i true)) := by rw [List.getElem?_toArray]; exact bv_at l i h
set_option maxHeartbeats 4000000 in
theorem Holds_any (w : World) (a : VA) (v : Vw) (hb : Bnd w) (hv : VM w a v) (hr : VR v) :
    Calls Tryd.prog 28 #[.agg (a.arr v)] w (HPost (holdsB v) (holdsI v) (holdsE v) w) := by
  obtain ⟨W, hW⟩ : ∃ W, W = w.alloc (.cells (a.arr v) 65) := ⟨_, rfl⟩
  have C0 : Ch [] w W := by rw [hW]; exact (Ch.refl _ _).alloc _
  have hbx : W.heap[w.heap.size]? = some (.cells (a.arr v) 65 (0, 0)) := by rw [hW]; exact heap_new w _
  have HBX := Lib.hid hbx
  have KX : Hid (∀ w1 : World, Ch [] W w1 → w1.cell? ⟨w.heap.size, 0, none⟩ = some (.slice a.ac v.cells.length a.cc) ∧ w1.cell? ⟨w.heap.size, 1, none⟩ = some (.int .u8 v.ph) ∧ w1.cell? ⟨w.heap.size, 2, none⟩ = some (.int .i64 v.sw) ∧ w1.cell? ⟨w.heap.size, 3, none⟩ = some (.slice a.ag v.grey.length a.cg) ∧ w1.cell? ⟨w.heap.size, 4, none⟩ = some (.slice a.agl v.globals.length a.cgl) ∧ w1.cell? ⟨w.heap.size, 5, none⟩ = some (.int .i64 v.laid) ∧ w1.cell? ⟨w.heap.size, 6, none⟩ = some (.slice a.al v.lanes.length a.cl)) := Lib.hid (fun w1 h1 => by
    have hh := h1.heap HBX.out (by simp)
    unfold VA.arr at hh
    exact ⟨cell_at hh, cell_at hh, cell_at hh, cell_at hh, cell_at hh, cell_at hh, cell_at hh⟩)
  have n1 := hr.n1
  have n3 := hr.n3
  have n4 := hr.n4
  have n5 := hr.n5
  have M := mayV_any W a v (Bnd.ch hb C0 (by simp)) (hv.ch C0) hr
  have HG := Lib.hid (fun (w1 : World) (h1 : Ch [] W w1) (hk : VOk v) => guarded_any w1 a v (Bnd.ch hb (C0.trans' h1) (by simp)) (hv.ch (C0.trans' h1)) hr hk)
  have HCL := Lib.hid (fun (w1 : World) (h1 : Ch [] W w1) => Clone_any w1 a.agl v.globals.length a.cgl v.globals (by omega) ((hv.ch (C0.trans' h1)).globals))
  have HWK := Lib.hid (fun (w1 : World) (h1 : Ch [] W w1) (hk : VOk v) (ao : Option Addr) (cap : Nat) (hrd : Rd w1 ao (rootsL v).length (ints .u64 (rootsL v))) => walkH_any w1 a v ao _ cap (rootsL v) (by have := rt_len v v.lanes.length; unfold rootsL; omega) (hv.ch (C0.trans' h1)) hr ⟨hrd.1, hrd.2.imp id fun ⟨b, off, h1, h2⟩ => ⟨b, off, h1, by simp, h2⟩⟩ hr.rootU (hk.wok _ nofree_k _ hk.rootWords) (Bnd.ch hb (C0.trans' h1) (by simp)))
  have HKN := Lib.hid (fun (w1 : World) (h1 : Ch [] W w1) (hk : VOk v) => known_any w1 a v (hv.ch (C0.trans' h1)) hr hk)
  have HC0 := Lib.hid C0
  have HV := Lib.hid hv
  have HR := Lib.hid hr
  have HB := Lib.hid hb
  have HKU := Lib.hid hr.knownU
  have hmk : ∀ w : World, _ := fun w => run_make_bools w v.cells.length (by omega)
  have hSL : ∀ j, (rt v j).length ≤ 200000 := fun j => by have := rt_len v j; omega
  have HSL := Lib.hid hSL
  have hKL : (knownL v).length ≤ 500000 := by have := kn2_len v v.lanes.length; unfold knownL; omega
  unfold VA.arr at hW M HG HWK HKN ⊢
  unfold GPost at HG
  unfold WalkPost at HWK
  unfold Mk1 at HKN
  unfold Mk2 at HCL
  obtain ⟨k0, k1, k2, k3, k4, k5, k6⟩ := KX.out W (Ch.refl _ _)
  clear hv hr hb hbx C0 hSL
  have HRE : Hid (∀ (b : Bool) (i : Nat) (er : Int) (w' : World), holdsB v = b → holdsI v = i → holdsE v = er → Ch [] w w' → HPost (holdsB v) (holdsI v) (holdsE v) w (.returned (.tuple #[.bool b, .int .i64 (i : Int), .int .i64 er])) w') := Lib.hid (fun b i er w' h1 h2 h3 h4 => by rw [h1, h2, h3]; exact ⟨rfl, h4⟩)
  generalize HPost (holdsB v) (holdsI v) (holdsE v) w = R at *
  obtain ⟨n, hn⟩ : ∃ n, n = v.cells.length := ⟨_, rfl⟩
  have HN := Lib.hid hn
  rw [← hn] at k0 HG HWK HKN KX hmk hW M n1 ⊢
  cases hm : mayV v
  · rw [hm] at M
    have HM := Lib.hid hm
    clear hm hn
    generalize v.globals.length = ng at *
    generalize v.grey.length = gl at *
    generalize v.lanes.length = nl at *
    go_enter Tryd.func28, Tryd.ntmps28
    go_wp2_with fail
    rw [← hW]
    refine M.mono ?_
    rintro e w2 ⟨rfl, h2⟩
    clear hW k0 k1 k2 k3 k4 k5 k6
    go_wp2_with fail
    go_ret3
    exact HRE.out _ _ _ _ (by simp [holdsB, HM.out]) (by simp [holdsI, HM.out]) (by simp [holdsE, HM.out]) (HC0.out.trans' h2)
  · rw [hm] at M
    have HM := Lib.hid hm
    have HOK := Lib.hid (mayV_ok hm)
    clear hm hn
    obtain ⟨ng, hng⟩ : ∃ ng, ng = v.globals.length := ⟨_, rfl⟩
    obtain ⟨nl, hnl⟩ : ∃ nl, nl = v.lanes.length := ⟨_, rfl⟩
    have HNG := Lib.hid hng
    have HNL := Lib.hid hnl
    rw [← hng] at k4 HG HWK KX hW M HCL HKN n3 ⊢
    rw [← hnl] at k6 HG HWK KX hW M HKN n4 ⊢
    clear hng hnl
    generalize v.grey.length = gl at *
    go_enter Tryd.func28, Tryd.ntmps28
    go_wp2_with fail
    rw [← hW]
    refine M.mono ?_
    rintro e w2 ⟨rfl, h2⟩
    have H2 := Lib.hid h2
    clear hW k0 k1 k2 k3 k4 k5 k6 M
    obtain ⟨k0, k1, k2, k3, k4, k5, k6⟩ := KX.out w2 h2
    have ON := on_any w2 v.ph
    clear h2
    cases hon : onP v.ph
    · rw [hon] at ON
      have HON := Lib.hid hon
      clear hon
      go_wp2_with fail
      refine ON.mono ?_
      rintro e w3 ⟨rfl, rfl⟩
      clear k0 k1 k2 k3 k4 k5 k6
      go_wp2_with fail
      go_ret3
      exact HRE.out _ 0 _ _ (by simp [holdsB, HM.out, HON.out]) (by simp [holdsI, HM.out, HON.out]) (by simp [holdsE, HM.out]) (HC0.out.trans' H2.out)
    · rw [hon] at ON
      have HON := Lib.hid hon
      clear hon
      go_wp2_with fail
      refine ON.mono ?_
      rintro e w3 ⟨rfl, rfl⟩
      clear ON
      have G := HG.out w3 H2.out HOK.out
      go_wp2_with fail
      refine G.mono ?_
      rintro e w4 ⟨m1, m2, rfl, g1, g2, g3, g4, g5⟩
      have H4 := Lib.hid (H2.out.trans' g3)
      have HM1 := Lib.hid g1
      have HM2 := Lib.hid g2
      clear G g1 g2 g3 g4 g5 k0 k1 k2 k3 k4 k5 k6 HG
      obtain ⟨k0, k1, k2, k3, k4, k5, k6⟩ := KX.out w4 H4.out
      have CL := HCL.out w4 H4.out
      go_wp2_with fail
      refine CL.mono ?_
      rintro e w5 ⟨lv, lq, rfl, g1, g2, g3⟩
      have X5 := Lib.hid g2
      have H5 := Lib.hid (H4.out.trans' g2)
      have HROW := Lib.hid g1
      have HQ := Lib.hid g3
      obtain ⟨a1, c1, rfl, _⟩ := g1.rd
      clear CL g1 g2 g3 k0 k1 k2 k3 k4 k5 k6 HCL
      obtain ⟨k0, k1, k2, k3, k4, k5, k6⟩ := KX.out w5 H5.out
      go_wp2_with fail
      clear k0 k1 k2 k3 k4 k5 k6
      have HS5 : Hid (Row w5 24 1 (.slice a1 ng c1) lq (rt v 0).length (ints .u64 (rt v 0)) ∧ ∀ q ∈ lq, w4.heap.size ≤ q) := Lib.hid ⟨by simp only [rt, List.take_zero, List.flatMap_nil, List.append_nil]; rw [← HNG.out]; exact HROW.out, fun q hq => (HQ.out q hq).1⟩
      go_loopw [36, 7] (fun i lv wr => ∃ (j : Nat) (lq : List Nat), i = .int .i64 j ∧ j ≤ nl ∧ Row wr 24 1 lv lq (rt v j).length (ints .u64 (rt v j)) ∧ Ch [] w4 wr ∧ ∀ q ∈ lq, w4.heap.size ≤ q) (fun i _ _ => nl - (intOf i).toNat)
      case atStart => exact ⟨0, lq, rfl, by omega, HS5.out.1, X5.out, HS5.out.2⟩
      case round =>
        obtain ⟨j, lq, rfl, hj, hrow, hc, hq⟩ := hrel
        clear HS5 HROW HQ X5
        obtain ⟨al, cl, rfl, l1, l2, _⟩ := hrow.rd
        have HROW := Lib.hid hrow
        have HC := Lib.hid hc
        have HQ := Lib.hid hq
        clear hrow
        have HCW := Lib.hid (HC0.out.trans' (H4.out.trans' hc))
        by_cases hlt : j < nl
        · have hjl : j < v.lanes.length := by rw [← HNL.out]; exact hlt
          have ltJ : (j : Int) < nl := by omega
          obtain ⟨b, off, hal, c1, c2, c3⟩ := (HV.out.ch HCW.out).lane j hjl
          have hmem := lane_mem hjl
          have hm : (v.lanes.getD j ln0).roots.length ≤ 100000 := by have := rootsN_mem hmem; omega
          have HRR2 := Lib.hid (fun (w6 : World) (h6 : Ch [] w w6) => (HV.out.ch h6).roots j hjl)
          have HNX := Lib.hid (rt_next v j hjl)
          have hle := HSL.out j
          rw [hal]
          clear hal hmem hjl
          generalize v.lanes.getD j ln0 = x at *
          obtain ⟨xr, xs, xe⟩ := x
          simp only at hm c1 c2 c3 HRR2
          have CA := Lib.hid ((Ch.refl [] wr).alloc (.cells #[.slice (a.la j) xr.length (a.lc j), .bool xs, .bool xe] 71))
          simp only at HNX
          generalize hL : rt v j = L at *
          have HL := Lib.hid hL
          clear hL hq hc
          generalize hnL : L.length = nL at *
          have HNLL := Lib.hid hnL
          clear hnL
          generalize hxl : xr.length = xl at *
          have HXL := Lib.hid hxl
          clear hxl
          generalize a.la j = xa at *
          generalize a.lc j = xcap at *
          obtain ⟨i0, hi, he⟩ := Option.map_eq_some_iff.1 infoWord
          simp only [Prod.mk.injEq] at he
          obtain ⟨hz0, hz1, hz2⟩ := he
          have HRD := Lib.hid (HRR2.out _ (HCW.out.trans' CA.out)).rd
          have HR1 := Lib.hid (HROW.out.ch CA.out (by simp))
          have H1C := Lib.hid (ints_one .u64 xr)
          go_wp2_with (at_builtin; go_loud (refine wpList_append_list _ rfl _ _ 62 rfl 24 i0 _ 1 8 Tryd.underlying62 hi hz0 hz1 hz2 rfl (by decide) rfl HR1.out xa xl xcap rfl (ints .u64 xr) (by have := HRD.out; rwa [Nat.mul_one]) H1C.out (by unfold maxLen; omega) (by omega) ?_))
          intro v' w6 lq' hr4 hc4 hq4
          obtain ⟨ao5, cap5, rfl, _⟩ := hr4.rd
          have HR4 := Lib.hid hr4
          have HC4 := Lib.hid hc4
          have HQ4 := Lib.hid hq4
          clear hr4 hc4 hq4 c1 c2 c3
          go_wp2_with fail
          go_roundw
          case rel =>
            refine ⟨j + 1, lq', by go_num, by omega, by rw [HNX.out, List.length_append, HNLL.out, HXL.out, show ints .u64 (L ++ xr) = ints .u64 L ++ ints .u64 xr by simp [ints]]; exact HR4.out, (HC.out.trans' CA.out).trans HC4.out (fun q hq => .inr (HQ.out q hq)), fun q hqq => ?_⟩
            rcases HQ4.out with rfl | ⟨q', rfl, h1, h2⟩
            · exact HQ.out q hqq
            · simp at hqq; subst hqq
              have := CA.out.size
              have := HC.out.size
              omega
          case measure => simp [intOf]; omega
        · obtain rfl : nl = j := by omega
          have H6 := Lib.hid (H4.out.trans' hc)
          have hrr : Row wr 24 1 (.slice al (rt v nl).length cl) lq (rootsL v).length (ints .u64 (rootsL v)) := by unfold rootsL; rw [← HNL.out]; exact HROW.out
          have hel : (rt v nl).length = (rootsL v).length := by unfold rootsL; rw [← HNL.out]
          rw [hel] at hrr
          obtain ⟨_, _, he2, _, _, hrd⟩ := hrr.rd
          simp only [Value.slice.injEq, true_and] at he2
          obtain ⟨rfl, rfl⟩ := he2
          rw [Nat.mul_one] at hrd
          have WK := HWK.out wr H6.out HOK.out al cl hrd
          rw [hel]
          generalize (rootsL v).length = rl at *
          obtain ⟨k0, k1, k2, k3, k4, k5, k6⟩ := KX.out wr H6.out
          clear hrr hrd hel hc hq
          go_wp2_with fail
          refine WK.mono ?_
          rintro e w7 ⟨m3, rfl, g1, g2, g3⟩
          have H7 := Lib.hid (H6.out.trans' g2)
          have X7 := Lib.hid (HC.out.trans' g2)
          have HM3 := Lib.hid g1
          clear WK g1 g2 g3 k0 k1 k2 k3 k4 k5 k6 HWK HROW HQ HCW
          have CA : Ch [] w7 (w7.alloc (.cells (bv (List.replicate n false)).toArray 4)) := (Ch.refl _ _).alloc _
          have KN := HKN.out _ (H7.out.trans' CA) HOK.out
          obtain ⟨k0, k1, k2, k3, k4, k5, k6⟩ := KX.out w7 H7.out
          obtain ⟨e0, e1, e2, e3, e4, e5, e6⟩ := KX.out _ (H7.out.trans' CA)
          have HM4 := Lib.hid (heap_new w7 (.cells (bv (List.replicate n false)).toArray 4))
          have HCA := Lib.hid CA
          clear CA
          go_wp2_with fail
          refine KN.mono ?_
          rintro e w8 ⟨kv, kq, rfl, g1, g2, g3⟩
          have H8 := Lib.hid (H7.out.trans' (HCA.out.trans' g2))
          have X8 := Lib.hid (X7.out.trans' (HCA.out.trans' g2))
          have Y8 := Lib.hid (HCA.out.trans' g2)
          have HN4 := Lib.hid (g2.heap HM4.out (by simp))
          have HKQ : Hid (w7.heap.size ∉ kq) := Lib.hid (fun hm => by have := g3 _ hm; rw [World.size_alloc] at this; omega)
          obtain ⟨ak, ck, rfl, _, _, hrk⟩ := g1.rd
          rw [Nat.mul_one] at hrk
          have HRK := Lib.hid g1
          have HW7 : Hid (W.heap.size ≤ w7.heap.size) := Lib.hid H7.out.size
          have HW47 : Hid (w4.heap.size ≤ w7.heap.size) := Lib.hid X7.out.size
          have HKL : (knownL v).length ≤ 500000 := hKL
          have HKW : Hid (∀ x ∈ knownL v, Gp.u64 x ∧ (isRef x = true → (cellN x).toNat < n)) := Lib.hid (fun x hx => ⟨HKU.out x hx, fun hr => by rw [HN.out]; exact isWord_ok (HOK.out.knownWords x hx) hr⟩)
          have HNF : Hid (namedL n ((knownL v).take 0) = List.replicate n false) := Lib.hid rfl
          have HEND : Hid (namedL n ((knownL v).take (knownL v).length) = namedL n (knownL v)) := Lib.hid (by rw [List.take_length])
          have HTK : Hid (∀ j, j < (knownL v).length → namedL n ((knownL v).take (j + 1)) = nm (namedL n ((knownL v).take j)) ((knownL v).getD j 0)) := Lib.hid (fun j hj => by rw [take_snoc _ _ 0 hj, namedL_snoc])
          have HLN : Hid (∀ j, (namedL n ((knownL v).take j)).length = n) := Lib.hid (fun j => namedL_len n _)
          obtain ⟨k8, hk8⟩ : ∃ k8, k8 = (knownL v).length := ⟨_, rfl⟩
          have HK8 := Lib.hid hk8
          rw [← hk8] at hrk HKL HEND HTK ⊢
          have HM7 : Hid (∀ wr, Ch [w7.heap.size] w8 wr → Rd wr ak k8 (ints .u64 (knownL v))) := Lib.hid (fun wr hc => by
            have := (HRK.out.ch hc (fun q hq hm => HKQ.out (by simp at hm; exact hm ▸ hq))).rd
            obtain ⟨_, _, he, _, _, hh⟩ := this
            simp only [Value.slice.injEq] at he
            obtain ⟨rfl, _, _⟩ := he
            rw [Nat.mul_one, ← HK8.out] at hh
            exact hh)
          clear KN g1 g2 g3 k0 k1 k2 k3 k4 k5 k6 e0 e1 e2 e3 e4 e5 e6 HKN hrk hk8 hmk HC hKL
          go_wp2_with fail
          go_loopw [55] (fun i wr => ∃ j : Nat, i = .int .i64 j ∧ j ≤ k8 ∧ wr.heap[w7.heap.size]? = some (.cells (bv (namedL n ((knownL v).take j))).toArray 4 (0, 0)) ∧ Ch [w7.heap.size] w8 wr) (fun i _ => k8 - (intOf i).toNat)
          case atStart => exact ⟨0, rfl, by omega, by rw [HNF.out]; exact HN4.out, Ch.refl _ _⟩
          case round =>
            obtain ⟨j, rfl, hj, hb, hc⟩ := hrel
            by_cases hlt : j < k8
            · have hjl : j < (knownL v).length := by rw [← HK8.out]; exact hlt
              obtain ⟨b, off, rfl, hjj⟩ := (HM7.out wr hc).2.resolve_left (by omega)
              have a1 := (hjj j hlt).trans (ints_get hjl)
              have hx := HKW.out ((knownL v).getD j 0) (by rw [show (knownL v).getD j 0 = (knownL v)[j] by simp [List.getD, hjl]]; exact List.getElem_mem hjl)
              have HNX := Lib.hid (HTK.out j hlt)
              have hll := HLN.out j
              generalize (knownL v).getD j 0 = x at *
              generalize namedL n ((knownL v).take j) = ms at *
              obtain ⟨hxu, hxc⟩ := hx
              have CC := Wd.Cell_any wr x hxu.1 hxu.2 (Bnd.ch HB.out ((HC0.out.trans' H8.out).trans hc (fun q hq => .inr (by simp at hq; subst hq; have := HC0.out.size; have := HW7.out; omega))) (by simp))
              have hrg := cellN_range x
              have ltJ : (j : Int) < k8 := by omega
              have HBB := Lib.hid hb
              have HC := Lib.hid hc
              unfold nm at HNX
              clear hjj hc hjl hxu
              cases href : isRef x
              · rw [href] at CC HNX
                simp only [Bool.false_eq_true, if_false] at HNX
                clear href hxc hrg hb
                generalize cellN x = cv at *
                go_wp2_with fail
                refine CC.mono ?_
                rintro e w9 ⟨rfl, rfl⟩
                clear CC
                go_wp2_with fail
                go_roundw
                case rel => exact ⟨j + 1, by go_num, by omega, by rw [HNX.out]; exact HBB.out, HC.out⟩
                case measure => simp [intOf]; omega
              · rw [href] at CC HNX
                simp only [if_true] at HNX
                have hcn := hxc href
                obtain ⟨c, hcc⟩ : ∃ c : Nat, c = (cellN x).toNat := ⟨_, rfl⟩
                have hcv : cellN x = (c : Int) := by omega
                rw [← hcc] at hcn HNX
                rw [hcv] at CC
                have b1 := cell_at (i := c) hb
                rw [bv_get (by rw [hll]; exact hcn)] at b1
                have b2 := free_at (i := c) hb
                have ltC : (c : Int) < n := by omega
                clear href hxc hrg hcc hcv hb
                go_wp2_with fail
                refine CC.mono ?_
                rintro e w9 ⟨rfl, rfl⟩
                clear CC
                go_wp2_with fail
                go_roundw
                case rel => exact ⟨j + 1, by go_num, by omega, by rw [HNX.out, ← bv_set]; exact heap_set HBB.out _, HC.out.setCell _ _ (.inl (by simp))⟩
                case measure => simp [intOf]; omega
            · obtain rfl : k8 = j := by omega
              have HB9 : Hid (wr.heap[w7.heap.size]? = some (.cells (bv (namedL n (knownL v))).toArray 4 (0, 0))) := Lib.hid (by rw [← HEND.out]; exact hb)
              have X9 : Hid (Ch [] w4 wr) := Lib.hid (X8.out.trans hc (fun q hq => .inr (by simp at hq; subst hq; exact HW47.out)))
              have H9 : Hid (Ch [] W wr) := Lib.hid (H8.out.trans hc (fun q hq => .inr (by simp at hq; subst hq; exact HW7.out)))
              have Y9 : Hid (Ch [] w7 wr) := Lib.hid (Y8.out.trans hc (fun q hq => .inr (by simp at hq; subst hq; exact Nat.le_refl _)))
              obtain ⟨k0, k1, k2, k3, k4, k5, k6⟩ := KX.out wr H9.out
              have N1 := Lib.hid (X9.out.heap HM1.out (by simp))
              have N2 := Lib.hid (X9.out.heap HM2.out (by simp))
              have N3 := Lib.hid (Y9.out.heap HM3.out (by simp))
              obtain ⟨wz, hwz⟩ : ∃ wz, wz = wr := ⟨_, rfl⟩
              obtain ⟨m4, hm4⟩ : ∃ m4, m4 = w7.heap.size := ⟨_, rfl⟩
              rw [← hm4] at HB9 ⊢
              have HBAD : Hid (∀ i, badH v i = (whiteC (v.cells.getD i z) && ((liveL v).getD i true && !(byL v).getD i true || (namedL n (knownL v)).getD i true && !(wellL v).getD i true))) := Lib.hid (fun i => by unfold badH; rw [HN.out])
              have L1 : Hid ((byL v).length = n) := Lib.hid (by unfold byL; rw [walkF_len, HN.out])
              have L2 : Hid ((wellL v).length = n) := Lib.hid (by unfold wellL; rw [walkF_len, HN.out])
              have L3 : Hid ((liveL v).length = n) := Lib.hid (by unfold liveL; rw [walkF_len, HN.out])
              have L4 : Hid ((namedL n (knownL v)).length = n) := Lib.hid (namedL_len n _)
              have N3' : Hid (wr.heap[m3]? = some (.cells (bv (liveL v)).toArray 4 (0, 0))) := N3
              clear hb hc HM7 HRK HN4 HTK HEND HNF HKW HM1 HM2 HM3 HM4 hm4 hwz
              go_wp2_with fail
              clear k0 k1 k2 k3 k4 k5 k6
              obtain ⟨wo, rfl⟩ : ∃ wo : World, wo = wr := ⟨_, rfl⟩
              go_loopw [72] (fun i wr => ∃ j : Nat, i = .int .i64 j ∧ j ≤ n ∧ Ch [] wo wr ∧ ∀ i, i < j → badH v i = false) (fun i _ => n - (intOf i).toNat)
              case atStart => exact ⟨0, rfl, by omega, Ch.refl _ _, fun i hi => absurd hi (by omega)⟩
              case round =>
                obtain ⟨j, rfl, hj, hc, hf⟩ := hrel
                have HF := Lib.hid hf
                have HC := Lib.hid hc
                have HCW := Lib.hid (HC0.out.trans' (H9.out.trans' hc))
                by_cases hlt : j < n
                · have hjl : j < v.cells.length := by rw [← HN.out]; exact hlt
                  have ltJ : (j : Int) < n := by omega
                  obtain ⟨bh, offh, hab, _, hjh⟩ := HV.out.cells.2.resolve_left (by omega)
                  have hA : ∀ t, t < 4 → wr.cell? ⟨bh, offh + (j * 4 + t), none⟩ = (celV (v.cells.getD j z))[t]? := fun t ht => by
                    have h3 := (hjh (j * 4 + t) (by omega)).trans (flat_get v.cells j t hjl ht)
                    rw [List.getElem?_eq_getElem (by simp [celV]; omega)] at h3 ⊢
                    exact HCW.out.cell h3 (by simp)
                  have d0 := hA 0 (by omega)
                  have d1 := hA 1 (by omega)
                  have d2 := hA 2 (by omega)
                  have d3 := hA 3 (by omega)
                  have HBJ := Lib.hid (HBAD.out j)
                  generalize v.cells.getD j z = y at *
                  obtain ⟨ck', cc', ca', cb'⟩ := y
                  simp only [celV, List.getElem?_cons_zero, List.getElem?_cons_succ, Nat.add_zero, ← Nat.add_assoc] at d0 d1 d2 d3
                  have CA := Lib.hid ((Ch.refl [] wr).alloc (.cells #[.int .u8 ck', .int .u8 cc', .int .u64 ca', .int .u64 cb'] 58))
                  have WH := white_any (wr.alloc (.cells #[.int .u8 ck', .int .u8 cc', .int .u64 ca', .int .u64 cb'] 58)) ck' cc' ca' cb'
                  have HGO : Hid (badH v j = false → ∀ i, i < j + 1 → badH v i = false) := Lib.hid (fun h i hi => by
                    by_cases e : i = j
                    · rw [e]; exact h
                    · exact HF.out i (by omega))
                  have HST : Hid (badH v j = true → ∀ w', Ch [] wo w' → R (.returned (.tuple #[.bool false, .int .i64 (j : Int), .int .i64 0])) w') := Lib.hid (fun h w' hcw => by
                    have hf2 : holdsF v = some j := find_at j h HF.out _ hjl
                    exact HRE.out false j 0 w' (by simp [holdsB, HM.out, HON.out, hf2]) (by simp [holdsI, HM.out, HON.out, hf2]) (by simp [holdsE, HM.out]) (HC0.out.trans' (H9.out.trans' hcw)))
                  have HT : Hid (∀ w', Ch [] wo w' → w'.cell? ⟨m3, j, none⟩ = some (.bool ((liveL v).getD j true)) ∧ w'.cell? ⟨m1, j, none⟩ = some (.bool ((byL v).getD j true)) ∧ w'.cell? ⟨m4, j, none⟩ = some (.bool ((namedL n (knownL v)).getD j true)) ∧ w'.cell? ⟨m2, j, none⟩ = some (.bool ((wellL v).getD j true))) := Lib.hid (fun w' hcw =>
                    ⟨(cell_at (hcw.heap N3'.out (by simp))).trans (bv_get (by rw [L3.out]; exact hlt)), (cell_at (hcw.heap N1.out (by simp))).trans (bv_get (by rw [L1.out]; exact hlt)), (cell_at (hcw.heap HB9.out (by simp))).trans (bv_get (by rw [L4.out]; exact hlt)), (cell_at (hcw.heap N2.out (by simp))).trans (bv_get (by rw [L2.out]; exact hlt))⟩)
                  rw [hab]
                  clear hab hjh hA hc hf hjl
                  generalize whiteC ⟨ck', cc', ca', cb'⟩ = wh at *
                  generalize (liveL v).getD j true = lv at *
                  generalize (byL v).getD j true = by' at *
                  generalize (namedL n (knownL v)).getD j true = nv' at *
                  generalize (wellL v).getD j true = wv at *
                  go_wp2_with fail
                  refine WH.mono ?_
                  rintro e w9 ⟨rfl, h9⟩
                  have C9 := Lib.hid (HC.out.trans' (CA.out.trans' h9))
                  obtain ⟨t1, t2, t3, t4⟩ := HT.out w9 C9.out
                  clear WH h9 d0 d1 d2 d3 HT
                  cases wh
                  · go_wp2_with fail
                    go_roundw
                    case rel => exact ⟨j + 1, by go_num, by omega, C9.out, HGO.out (by rw [HBJ.out]; rfl)⟩
                    case measure => simp [intOf]; omega
                  · cases lv
                    · cases nv'
                      · go_wp2_with fail
                        go_roundw
                        case rel => exact ⟨j + 1, by go_num, by omega, C9.out, HGO.out (by rw [HBJ.out]; rfl)⟩
                        case measure => simp [intOf]; omega
                      · cases wv
                        · go_wp2_with fail
                          go_ret3
                          exact HST.out (by rw [HBJ.out]; rfl) _ C9.out
                        · go_wp2_with fail
                          go_roundw
                          case rel => exact ⟨j + 1, by go_num, by omega, C9.out, HGO.out (by rw [HBJ.out]; rfl)⟩
                          case measure => simp [intOf]; omega
                    · cases by'
                      · go_wp2_with fail
                        go_ret3
                        exact HST.out (by rw [HBJ.out]; rfl) _ C9.out
                      · cases nv'
                        · go_wp2_with fail
                          go_roundw
                          case rel => exact ⟨j + 1, by go_num, by omega, C9.out, HGO.out (by rw [HBJ.out]; rfl)⟩
                          case measure => simp [intOf]; omega
                        · cases wv
                          · go_wp2_with fail
                            go_ret3
                            exact HST.out (by rw [HBJ.out]; rfl) _ C9.out
                          · go_wp2_with fail
                            go_roundw
                            case rel => exact ⟨j + 1, by go_num, by omega, C9.out, HGO.out (by rw [HBJ.out]; rfl)⟩
                            case measure => simp [intOf]; omega
                · obtain rfl : n = j := by omega
                  have hf2 : holdsF v = none := find_none _ (fun i hi => hf i (by rw [HN.out]; exact hi))
                  have Z : Hid (R (.returned (.tuple #[.bool true, .int .i64 0, .int .i64 0])) wr) := Lib.hid (HRE.out true 0 0 wr (by simp [holdsB, HM.out, hf2]) (by simp [holdsI, HM.out, HON.out, hf2]) (by simp [holdsE, HM.out]) HCW.out)
                  clear hf hc hf2
                  go_wp2_with fail
                  go_ret3
                  exact Z.out
end Go.Proofs.YtlhhcocdhkbdnaaDoor.Bp
