/-
  THE WALKS of BarrierKeeps, on: a lane's steps (a lane comes).
-/
import Derived.Test.YtlhhcocdhkbdnaaDoorQKeepW11
import Derived.Test.YtlhhcocdhkbdnaaDoorQRegLast
set_option linter.unusedVariables false
set_option linter.unusedSimpArgs false
set_option maxRecDepth 100000
namespace Go.Proofs.YtlhhcocdhkbdnaaDoor.Kp
open Go.RowKit Go.Proofs.YtlhhcocdhkbdnaaDoor.Wd Go.Proofs.YtlhhcocdhkbdnaaDoor.Hp Go.Proofs.YtlhhcocdhkbdnaaDoor.Gp Go.Proofs.YtlhhcocdhkbdnaaDoor.Sm Go.Proofs.YtlhhcocdhkbdnaaDoor.Gr Go.Proofs.YtlhhcocdhkbdnaaDoor.Bp Go.Proofs.YtlhhcocdhkbdnaaDoor.Own
/-- A lane comes; who had nothing has nothing. -/
theorem WM.laneAdd2 {w0 w w1 : World} {O : Nat → Nat} {wp : Nat} {a : VA} {v : Vw} {T : List Nat} (h : WM w0 w O wp a v) {l : Ln} {ao ro : Option Addr} {cap rc : Nat} {q qr : List Nat} {w2 : World} (hc0 : Ch [] w w1) (hrr : Row w1 24 1 (.slice ro l.roots.length rc) qr l.roots.length (ints .u64 l.roots)) (hqr : ∀ x ∈ qr, w.heap.size ≤ x ∧ x < w1.heap.size)
    (hr : Row w2 71 3 (.slice ao (v.lanes.length + 1) cap) q (v.lanes.length + 1) (lanesV a v ++ [.slice ro l.roots.length rc, .bool l.sc, .bool l.en])) (hc : Ch T w1 w2) (hT : ∀ x ∈ T, O x = 5) (hq : ∀ x ∈ q, O x = 5 ∨ (w1.heap.size ≤ x ∧ x < w2.heap.size)) :
    ∃ O' a', WM w0 (w2.setCell ⟨wp, 6, none⟩ (.slice ao (v.lanes.length + 1) cap)) O' wp a' (addL v l) ∧ ∀ x, x < w.heap.size → O x = 0 → O' x = 0 := by
  obtain ⟨L, hL⟩ : ∃ L, L = v.lanes.length := ⟨_, rfl⟩
  rw [← hL] at hr ⊢
  obtain ⟨g1, hx1, hp1⟩ := h.turn (id := 6 + L) (T := []) (q := qr) (by omega) hc0 (by simp) (fun x hx => .inr (hqr x hx))
  have h1 := h.chs hc0
  have hx2 : Ext (put O (6 + L) qr) (put (put O (6 + L) qr) 5 q) := put_ext (w' := w1) g1 5 q (fun x hx => by
    rcases hq x hx with e | e
    · left; rw [hx1 x (by omega)]; exact e
    · exact .inr e.1)
  have g2 : G w0 w2 (put (put O (6 + L) qr) 5 q) := (g1.step hc (fun x hm => .inl (by rw [hx1 x (by rw [hT x hm]; omega), hT x hm]; omega))).put 5 q (fun x hm => by
    rcases hq x hm with e | e
    · left; rw [hx1 x (by omega)]; exact e
    · have := g1.ch.size; right; omega)
  have hx := hx1.trans hx2
  have hun : ∀ x, x < w.heap.size → O x = 0 → put (put O (6 + L) qr) 5 q x = 0 := fun x hx h0 => by
    have n1 : x ∉ q := fun hm => by
      rcases hq x hm with e | e
      · omega
      · have := hc0.size; omega
    have n2 : x ∉ qr := fun hm => by have := hqr x hm; omega
    unfold put
    rw [if_neg n1, if_neg n2]
    exact h0
  generalize hO' : put (put O (6 + L) qr) 5 q = O' at *
  have hw1 : O' wp = 1 := by rw [hx wp (by rw [h.o1]; omega)]; exact h.o1
  have hpw : O wp = 1 := h.o1
  have hT' : ∀ x ∈ T, O x = 5 := hT
  have hh := hc.heap (hc0.heap h.hp (by simp)) (fun hm => by have := hT wp hm; omega)
  have K : ∀ (id : Nat) (e : TypeId) (sz : Nat) (bo : Option Addr) (n cp : Nat) (xs : List Value), OR w O id e sz bo n cp xs → id ≠ 0 → id ≠ 1 → id ≠ 5 → OR (w2.setCell ⟨wp, 6, none⟩ (.slice ao (L + 1) cap)) O' id e sz bo n cp xs := fun id e sz bo n cp xs h3 e0 e1 e5 =>
    set_keep ((h3.keep e0 hc0 (Ext.refl O) (by simp)).keep e0 hc hx (fun x hm => by rw [hT x hm]; exact Ne.symm e5)) e0 (by show O' wp ≠ id; rw [hw1]; exact Ne.symm e1)
  have hlen : (addL v l).lanes.length = L + 1 := by show (v.lanes ++ [l]).length = _; simp [hL]
  have hat : ∀ i, i < L → (addL v l).lanes.getD i ln0 = v.lanes.getD i ln0 := fun i hi => by
    show (v.lanes ++ [l]).getD i ln0 = _
    rw [List.getD_eq_getElem?_getD, List.getElem?_append_left (by omega), ← List.getD_eq_getElem?_getD]
  have hatL : (addL v l).lanes.getD L ln0 = l := by
    show (v.lanes ++ [l]).getD L ln0 = _
    rw [hL, List.getD_eq_getElem?_getD, List.getElem?_append_right (by omega)]; simp
  refine ⟨O', { a with al := ao, cl := cap, la := fun i => if i = L then ro else a.la i, lc := fun i => if i = L then rc else a.lc i }, ⟨set_g g2 (by show O' wp ≠ 0; omega), ?_, hw1, K _ _ _ _ _ _ _ h.cs (by omega) (by omega) (by omega), K _ _ _ _ _ _ _ h.gr (by omega) (by omega) (by omega), K _ _ _ _ _ _ _ h.gl (by omega) (by omega) (by omega), ?_, fun i hi => ?_⟩, hun⟩
  · refine (heap_set hh _).trans ?_
    rw [show (addL v l).lanes.length = v.lanes.length + 1 by rw [hlen, hL]] at *
    simp only [VA.arr, addL, List.length_append, List.length_singleton, hL]
    rfl
  · refine set_keep ⟨q, ?_, fun x hm => by rw [← hO']; exact put_at _ 5 q x hm⟩ (by omega) (by show O' wp ≠ 5; omega)
    rw [hlen]
    have e : lanesV { a with al := ao, cl := cap, la := fun i => if i = L then ro else a.la i, lc := fun i => if i = L then rc else a.lc i } (addL v l) = lanesV a v ++ [.slice ro l.roots.length rc, .bool l.sc, .bool l.en] := by
      unfold lanesV
      rw [hlen, ← hL, List.range_succ, List.flatMap_append]
      congr 1
      · have fc : ∀ (f g : Nat → List Value) (l : List Nat), (∀ i ∈ l, f i = g i) → l.flatMap f = l.flatMap g := by
          intro f g l
          induction l with
          | nil => intro _; rfl
          | cons x l ih => intro hh2; rw [List.flatMap_cons, List.flatMap_cons, hh2 x (by simp), ih (fun i hi => hh2 i (by simp [hi]))]
        refine fc _ _ _ (fun i hi => ?_)
        have hi' := List.mem_range.1 hi
        unfold laneV
        rw [hat i hi']
        simp [show i ≠ L by omega]
      · simp only [List.flatMap_cons, List.flatMap_nil, List.append_nil]
        unfold laneV
        rw [hatL]
        simp
    rw [e]; exact hr
  · rw [hlen] at hi
    by_cases e : i = L
    · subst e
      rw [hatL]
      have h3 : OR w1 (put O (6 + i) qr) (6 + i) 24 1 ro l.roots.length rc (ints .u64 l.roots) := ⟨qr, hrr, hp1⟩
      have h4 := h3.keep (by omega) hc hx2 (fun x hm => by rw [hx1 x (by rw [hT x hm]; omega), hT x hm]; omega)
      have h5 := set_keep (p := ⟨wp, 6, none⟩) (u := .slice ao (i + 1) cap) h4 (by omega) (by show O' wp ≠ 6 + i; omega)
      simpa using h5
    · rw [hat i (by omega)]
      have h5 := K _ _ _ _ _ _ _ (h.rt i (by omega)) (by omega) (by omega) (by omega)
      simpa [e] using h5
theorem infoLaneK : (Tryd.prog.info? 71).map (fun i => (i.zero, i.size, i.bytes)) = some (some (.agg #[.slice none 0 0, .bool false, .bool false]), 3, 32) := by kernel_rfl
set_option maxHeartbeats 8000000 in
theorem stepD {w0 w : World} {O : Nat → Nat} {wp : Nat} {a : VA} {v : Vw} (h : WM w0 w O wp a v) (gv : GV v) (hb : Bnd w0) (s : S5) (hs : SI s) (hk : s.kd = 8) (h0 : 0 < v.lanes.length) (hen : (v.lanes.getD (pickN s.who v.lanes.length) ln0).en = false) :
    Calls Tryd.prog 31 #[.pointer (some ⟨wp, 0, none⟩), .agg (stA s)] w fun e w' => e = .returned (.bool true) ∧ MX w0 w O w' wp (stepS v s) := by
  obtain ⟨W, hW⟩ : ∃ W, W = w.alloc (.cells (stA s) 86) := ⟨_, rfl⟩
  have hal1 : Ch [] w W := by rw [hW]; exact (Ch.refl _ _).alloc _
  have H1 := Lib.hid (h.chs hal1)
  have HU1 := Lib.hid (Un.ch (O := O) hal1)
  obtain ⟨bo, hbo⟩ : ∃ bo, bo = w.heap.size := ⟨_, rfl⟩
  have HZ0 : Hid (O bo = 0) := Lib.hid (by rw [hbo]; exact h.fresh (Nat.le_refl _))
  have HBZ : Hid (W.heap[bo]? = some (.cells (stA s) 86 (0, 0))) := Lib.hid (by rw [hbo, hW]; exact heap_new w _)
  have HBO := Lib.hid hbo
  have HG := Lib.hid gv
  have HB := Lib.hid hb
  have HSI := Lib.hid hs
  obtain ⟨V', hV'⟩ : ∃ V', V' = stepS v s := ⟨_, rfl⟩
  rw [← hV']
  have HVV : Hid (V' = spawnV v (pickN s.who v.lanes.length) s) := Lib.hid (by rw [hV']; unfold stepS; rw [if_neg (by omega), if_neg (by omega), if_neg (by rw [hen]; simp), if_pos hk])
  have HGS : Hid (GV V') := Lib.hid (by rw [hV']; exact step_gv gv s)
  have hnl := gv.nl
  have hk' : (decide ((10 : Int) ≤ s.kd)) = false := by rw [hk]; rfl
  have hj := pick_lt s.who h0
  have P := pick_any W.drew s.who v.lanes.length hs.who h0 (by have := gv.nl; omega)
  obtain ⟨q, off, hal, _⟩ := H1.out.lane hj
  have HAL := Lib.hid hal
  have HJ := Lib.hid hj
  obtain ⟨l0, l1, l2, _, _⟩ := H1.out.laneF hj hal
  have ltJ : ((pickN s.who v.lanes.length : Nat) : Int) < v.lanes.length := by omega
  have lt0 : ((v.lanes.length : Int) == 0) = false := beq_eq_false_iff_ne.2 (by omega)
  have n8 : (s.kd == 8) = true := by rw [hk]; rfl
  rw [hen] at l2
  have hrn := gv.nr _ (getD_memD ln0 hj)
  have HRI := Lib.hid ((H1.out.vm.roots (pickN s.who v.lanes.length) hj).rd)
  have PX := Lib.hid (fun V => pick_any V s.who v.lanes.length HSI.out.who h0 (by have := HG.out.nl; omega))
  have HX := Lib.hid (gv.val hj s.a)
  have HY := Lib.hid (gv.val hj s.b)
  have HNN : Hid (v.lanes.length = v.lanes.length) := Lib.hid rfl
  have HV2 : Hid (V' = if v.lanes.length < 8 then addL v ⟨[valK (v.lanes.getD (pickN s.who v.lanes.length) ln0) s.a, valK (v.lanes.getD (pickN s.who v.lanes.length) ln0) s.b], (v.lanes.getD (pickN s.who v.lanes.length) ln0).sc, false⟩ else v) := Lib.hid (by rw [HVV.out]; rfl)
  clear hk hen h0 hj HVV
  have hal' := hal
  clear hal
  unfold stA
  unfold stA at hW
  clear h gv hs hal1 hbo hb hV'
  go_enter Tryd.func31, Tryd.ntmps31
  go_upto_region 1 with fail
  rw [← hW, ← HBO.out]
  clear hW
  obtain ⟨b0, b1, b2, b3, b4⟩ := st_box HBZ.out
  have c6 : W.cell? ⟨wp, 6, none⟩ = some (.slice a.al v.lanes.length a.cl) := H1.out.wpc 6
  rw [hal'] at c6
  clear hal'
  generalize pickN s.who v.lanes.length = j at *
  generalize hli : v.lanes.getD j ln0 = li at *
  generalize hnn : v.lanes.length = nl at *
  have HNL := Lib.hid hnn
  clear hnn hli
  go_wp2_with fail
  refine wp_region_still_tail 12 (by kernel_rfl) (by kernel_rfl) ?_
  simp only [List.take_succ_cons, List.take_zero, List.drop_succ_cons, List.drop_zero]
  (iterate 8 still_step)
  still_call P
  (iterate 3 still_step)
  refine wpStill_nil ?_
  change wpList _ _ _ _ _ W.drew
  have C2 : Ch [] W W.drew := (Ch.refl [] W).drew
  have HC2 := Lib.hid C2
  have B2 : W.drew.heap[bo]? = some (.cells (stA s) 86 (0, 0)) := HBZ.out
  have HB2 := Lib.hid B2
  obtain ⟨d0, d1, d2, d3, d4⟩ := st_box B2
  have c6' := C2.cell c6 (by simp)
  have l0' := C2.cell l0 (by simp)
  have l1' := C2.cell l1 (by simp)
  have l2' := C2.cell l2 (by simp)
  have H2 := Lib.hid (H1.out.chs C2)
  have HU2 := Lib.hid (HU1.out.trans (Un.ch C2))
  have HRI2 := Lib.hid (HRI.out.ch C2)
  clear P l0 l1 l2 b0 b1 b2 b3 b4 c6 C2 B2
  generalize W.drew = w2 at *
  go_wp2_with fail
  have HKS : Hid (∀ V, Ch [] w2 V → V.cell? ⟨wp, 6, none⟩ = some (.slice (some ⟨q, off, none⟩) nl a.cl) ∧ V.cell? ⟨bo, 1, none⟩ = some (.int .i64 s.who) ∧ V.cell? ⟨q, off + j * 3, none⟩ = some (.slice (a.la j) li.roots.length (a.lc j)) ∧ V.cell? ⟨q, off + j * 3 + 1, none⟩ = some (.bool li.sc) ∧ V.cell? ⟨q, off + j * 3 + 2, none⟩ = some (.bool false)) := Lib.hid (fun V hV => ⟨hV.cell c6' (by simp), hV.cell d1 (by simp), hV.cell l0' (by simp), hV.cell l1' (by simp), hV.cell l2' (by simp)⟩)
  go_region_held3 (fun w' => w'.cell? ⟨wp, 6, none⟩ = some (.slice (some ⟨q, off, none⟩) nl a.cl) ∧ w'.cell? ⟨bo, 1, none⟩ = some (.int .i64 s.who) ∧ w'.cell? ⟨q, off + j * 3, none⟩ = some (.slice (a.la j) li.roots.length (a.lc j)) ∧ w'.cell? ⟨q, off + j * 3 + 1, none⟩ = some (.bool li.sc) ∧ w'.cell? ⟨q, off + j * 3 + 2, none⟩ = some (.bool false)) (refine HKS.out _ ?_ <;> repeat (first | exact Ch.refl _ _ | apply Ch.drew | apply Ch.alloc)) (first | (go_at_call 77; refine (PX.out _).mono ?_; rintro e w9 ⟨rfl, rfl⟩))
  all_goals
    have C9 : Ch [] w2 (w2.alloc (.cells #[.slice (a.la j) li.roots.length (a.lc j), .bool li.sc, .bool false] 71)).drew := ((Ch.refl [] w2).alloc _).drew
    have H9 := Lib.hid (H2.out.chs C9)
    have HU9 := Lib.hid (HU2.out.trans (Un.ch C9))
    have HZ9 : Hid (O w2.heap.size = 0) := Lib.hid (H2.out.fresh (Nat.le_refl _))
    have z0 : (w2.alloc (.cells #[.slice (a.la j) li.roots.length (a.lc j), .bool li.sc, .bool false] 71)).drew.cell? ⟨w2.heap.size, 0, none⟩ = some (.slice (a.la j) li.roots.length (a.lc j)) := (cell_at (heap_new w2 _)).trans rfl
    have z1 : (w2.alloc (.cells #[.slice (a.la j) li.roots.length (a.lc j), .bool li.sc, .bool false] 71)).drew.cell? ⟨w2.heap.size, 1, none⟩ = some (.bool li.sc) := (cell_at (heap_new w2 _)).trans rfl
    have c6 := C9.cell c6' (by simp)
    have e2 := C9.cell d2 (by simp)
    have e3 := C9.cell d3 (by simp)
    have HRI9 := Lib.hid (HRI2.out.ch C9)
    clear c6' d0 d1 d2 d3 d4 l0' l1' l2' HKS PX C9
    generalize (w2.alloc (.cells #[.slice (a.la j) li.roots.length (a.lc j), .bool li.sc, .bool false] 71)).drew = w9 at *
    generalize w2.heap.size = ob at *
    by_cases h8 : nl < 8
    · have lt8 : (nl : Int) < 8 := by omega
      have HV3 : Hid (V' = addL v ⟨[valK li s.a, valK li s.b], li.sc, false⟩) := Lib.hid (by rw [HV2.out, if_pos h8])
      clear h8
      have VX := Lib.hid (fun V (hV : Ch [] w9 V) => value_any V ob 0 (a.la j) (a.lc j) li s.a HSI.out.a hrn (hV.cell z0 (by simp)) (HRI9.out.ch hV))
      have VY := Lib.hid (fun V (hV : Ch [] w9 V) => value_any V ob 0 (a.la j) (a.lc j) li s.b HSI.out.b hrn (hV.cell z0 (by simp)) (HRI9.out.ch hV))
      generalize valK li s.a = x at *
      generalize valK li s.b = y at *
      generalize li.sc = sc at *
      obtain ⟨qs, hrow, hqs⟩ := H9.out.ln
      rw [HAL.out, HNL.out] at hrow
      obtain ⟨il, hli, hel⟩ := Option.map_eq_some_iff.1 infoLaneK
      simp only [Prod.mk.injEq] at hel
      obtain ⟨hl0, hl1, hl2⟩ := hel
      have CA : Ch [] w9 (w9.drew.alloc (.cells #[.int .u64 x, .int .u64 y] 24)) := ((Ch.refl [] w9).drew).alloc _
      have hszA : (w9.drew.alloc (.cells #[.int .u64 x, .int .u64 y] 24)).heap.size = w9.heap.size + 1 := World.size_alloc _ _
      have CB : Ch [] w9 ((w9.drew.alloc (.cells #[.int .u64 x, .int .u64 y] 24)).alloc (.cells #[.slice (some ⟨w9.heap.size, 0, none⟩) 2 2, .bool sc, .bool false] 71)) := CA.alloc _
      have HCA := Lib.hid CA
      have HCB := Lib.hid CB
      have HR := Lib.hid (hrow.ch CB (by simp))
      have HQS : Hid (∀ y ∈ qs, O y = 5) := Lib.hid hqs
      have HNA : Hid ((w9.drew.alloc (.cells #[.int .u64 x, .int .u64 y] 24)).heap[w9.heap.size]? = some (.cells #[.int .u64 x, .int .u64 y] 24 (0, 0))) := Lib.hid (heap_new w9.drew _)
      have HN := Lib.hid (newL (w := w9.drew.alloc (.cells #[.int .u64 x, .int .u64 y] 24)) (b := w9.heap.size + 1) hszA.symm [.slice (some ⟨w9.heap.size, 0, none⟩) 2 2, .bool sc, .bool false] 71)
      have k1 : w9.drew.cell? ⟨wp, 6, none⟩ = some (.slice (some ⟨q, off, none⟩) nl a.cl) := c6
      have k2 : (w9.drew.alloc (.cells #[.int .u64 x, .int .u64 y] 24)).cell? ⟨wp, 6, none⟩ = some (.slice (some ⟨q, off, none⟩) nl a.cl) := CA.cell c6 (by simp)
      have k3 : ((w9.drew.alloc (.cells #[.int .u64 x, .int .u64 y] 24)).alloc (.cells #[.slice (some ⟨w9.heap.size, 0, none⟩) 2 2, .bool sc, .bool false] 71)).cell? ⟨wp, 6, none⟩ = some (.slice (some ⟨q, off, none⟩) nl a.cl) := CB.cell c6 (by simp)
      have k4 : w9.drew.cell? ⟨bo, 2, none⟩ = some (.int .i64 s.a) := e2
      have k5 : w9.drew.cell? ⟨bo, 3, none⟩ = some (.int .i64 s.b) := e3
      have k6 : w9.drew.cell? ⟨ob, 1, none⟩ = some (.bool sc) := z1
      have k7 : (w9.drew.alloc (.cells #[.int .u64 x, .int .u64 y] 24)).cell? ⟨ob, 1, none⟩ = some (.bool sc) := CA.cell z1 (by simp)
      have HWN : Hid (∀ b, O b ≠ 5 → b ∉ qs) := Lib.hid (fun b h5 hm => h5 (hqs b hm))
      have HKS : Hid (∀ V, Ch [] w9 V → V.cell? ⟨wp, 6, none⟩ = some (.slice (some ⟨q, off, none⟩) nl a.cl) ∧ V.cell? ⟨bo, 2, none⟩ = some (.int .i64 s.a) ∧ V.cell? ⟨bo, 3, none⟩ = some (.int .i64 s.b) ∧ V.cell? ⟨ob, 1, none⟩ = some (.bool sc)) := Lib.hid (fun V hV => ⟨hV.cell c6 (by simp), hV.cell e2 (by simp), hV.cell e3 (by simp), hV.cell z1 (by simp)⟩)
      have HV1 : Hid (∀ W, Ch qs ((w9.drew.alloc (.cells #[.int .u64 x, .int .u64 y] 24)).alloc (.cells #[.slice (some ⟨w9.heap.size, 0, none⟩) 2 2, .bool sc, .bool false] 71)) W → (W.cell? ⟨wp, 6, none⟩ = some (.slice (some ⟨q, off, none⟩) nl a.cl) ∧ W.cell? ⟨bo, 2, none⟩ = some (.int .i64 s.a) ∧ W.cell? ⟨bo, 3, none⟩ = some (.int .i64 s.b) ∧ W.cell? ⟨ob, 1, none⟩ = some (.bool sc)) ∧ W.frozen? ⟨wp, 6, none⟩ = false) := Lib.hid (fun W hW => by
        obtain ⟨t1, t2, t3, t4⟩ := HKS.out _ HCB.out
        have o1 := H9.out.o1
        have n1 : wp ∉ qs := HWN.out wp (by omega)
        have n2 : bo ∉ qs := HWN.out bo (by rw [HZ0.out]; decide)
        have n3 : ob ∉ qs := HWN.out ob (by rw [HZ9.out]; decide)
        have hh := hW.heap (HCB.out.heap H9.out.hp (by simp)) n1
        exact ⟨⟨hW.cell t1 n1, hW.cell t2 n2, hW.cell t3 n2, hW.cell t4 n3⟩, free_at hh⟩)
      clear CA CB hrow hqs z0 z1 e2 e3 c6 hszA k1 k2 k3 k4 k5 k6 k7
      go_upto_region 13 with fail
      refine Rl.wp_region_last (S := (fun w' => w'.cell? ⟨wp, 6, none⟩ = some (.slice (some ⟨q, off, none⟩) nl a.cl) ∧ w'.cell? ⟨bo, 2, none⟩ = some (.int .i64 s.a) ∧ w'.cell? ⟨bo, 3, none⟩ = some (.int .i64 s.b) ∧ w'.cell? ⟨ob, 1, none⟩ = some (.bool sc))) 21 21 (by kernel_rfl) (by kernel_rfl) (by kernel_rfl) (HKS.out _ (Ch.refl _ _).drew) (fun hHeld => ?_)
      refine wpAnyH_take (i := 0) (v := ?_) (Rl.arr_at Rl.at_0) (by kernel_rfl) (by kernel_rfl) (by kernel_rfl) (fun _ _ _ h => h) (Or.inl ⟨by rfl, ?_⟩) (by assumption) ?_
      rotate_left 1
      · (intro w hSw; (try dsimp only at hSw); go_simp) <;> with_reducible rfl
      (try simp only [Act.put, List.setIfInBounds_toArray, List.set_cons_zero, List.set_cons_succ])
      refine wpAnyH_take (i := 1) (v := ?_) (Rl.arr_at (Rl.at_s Rl.at_0)) (by kernel_rfl) (by kernel_rfl) (by kernel_rfl) (fun _ _ _ h => h) (Or.inl ⟨by rfl, ?_⟩) (by assumption) ?_
      rotate_left 1
      · (intro w hSw; (try dsimp only at hSw); go_simp) <;> with_reducible rfl
      (try simp only [Act.put, List.setIfInBounds_toArray, List.set_cons_zero, List.set_cons_succ])
      refine wpAnyH_take (i := 2) (v := ?_) (Rl.arr_at (Rl.at_s (Rl.at_s Rl.at_0))) (by kernel_rfl) (by kernel_rfl) (by kernel_rfl) (fun _ _ _ h => h) (Or.inl ⟨by rfl, ?_⟩) (by assumption) ?_
      rotate_left 1
      · (intro w hSw; (try dsimp only at hSw); go_simp) <;> with_reducible rfl
      (try simp only [Act.put, List.setIfInBounds_toArray, List.set_cons_zero, List.set_cons_succ])
      refine wpAnyH_take (i := 3) (v := ?_) (Rl.arr_at (Rl.at_s (Rl.at_s (Rl.at_s Rl.at_0)))) (by kernel_rfl) (by kernel_rfl) (by kernel_rfl) (fun _ _ _ h => h) (Or.inl ⟨by rfl, ?_⟩) (by assumption) ?_
      rotate_left 1
      · (intro w hSw; (try dsimp only at hSw); go_simp) <;> with_reducible rfl
      (try simp only [Act.put, List.setIfInBounds_toArray, List.set_cons_zero, List.set_cons_succ])
      refine wpAnyH_take (i := 4) (v := ?_) (Rl.arr_at (Rl.at_s (Rl.at_s (Rl.at_s (Rl.at_s Rl.at_0))))) (by kernel_rfl) (by kernel_rfl) (by kernel_rfl) (fun _ _ _ h => h) (Or.inl ⟨by rfl, ?_⟩) (by assumption) ?_
      rotate_left 1
      · (intro w hSw; (try dsimp only at hSw); go_simp) <;> with_reducible rfl
      (try simp only [Act.put, List.setIfInBounds_toArray, List.set_cons_zero, List.set_cons_succ])
      refine wpAnyH_take (i := 5) (v := ?_) (Rl.arr_at (Rl.at_s (Rl.at_s (Rl.at_s (Rl.at_s (Rl.at_s Rl.at_0)))))) (by kernel_rfl) (by kernel_rfl) (by kernel_rfl) (fun _ _ _ h => h) (Or.inl ⟨by rfl, ?_⟩) (by assumption) ?_
      rotate_left 1
      · (intro w hSw; (try dsimp only at hSw); go_simp) <;> with_reducible rfl
      (try simp only [Act.put, List.setIfInBounds_toArray, List.set_cons_zero, List.set_cons_succ])
      refine wpAnyH_take (i := 6) (v := ?_) (Rl.arr_at (Rl.at_s (Rl.at_s (Rl.at_s (Rl.at_s (Rl.at_s (Rl.at_s Rl.at_0))))))) (by kernel_rfl) (by kernel_rfl) (by kernel_rfl) (fun _ _ _ h => h) (Or.inl ⟨by rfl, ?_⟩) (by assumption) ?_
      rotate_left 1
      · (intro w hSw; (try dsimp only at hSw); go_simp) <;> with_reducible rfl
      (try simp only [Act.put, List.setIfInBounds_toArray, List.set_cons_zero, List.set_cons_succ])
      refine wpAnyH_take (i := 7) (v := ?_) (Rl.arr_at (Rl.at_s (Rl.at_s (Rl.at_s (Rl.at_s (Rl.at_s (Rl.at_s (Rl.at_s Rl.at_0)))))))) (by kernel_rfl) (by kernel_rfl) (by kernel_rfl) (fun _ _ _ h => h) (Or.inl ⟨by rfl, ?_⟩) (by assumption) ?_
      rotate_left 1
      · (intro w hSw; (try dsimp only at hSw); go_simp) <;> with_reducible rfl
      (try simp only [Act.put, List.setIfInBounds_toArray, List.set_cons_zero, List.set_cons_succ])
      refine wpAnyH_take (i := 9) (v := ?_) (Rl.arr_at (Rl.at_s (Rl.at_s (Rl.at_s (Rl.at_s (Rl.at_s (Rl.at_s (Rl.at_s (Rl.at_s (Rl.at_s Rl.at_0)))))))))) (by kernel_rfl) (by kernel_rfl) (by kernel_rfl) (fun _ _ _ h => h) (Or.inl ⟨by rfl, ?_⟩) (by assumption) ?_
      rotate_left 1
      · (intro w hSw; (try dsimp only at hSw); go_simp) <;> with_reducible rfl
      (try simp only [Act.put, List.setIfInBounds_toArray, List.set_cons_zero, List.set_cons_succ])
      refine wpAnyH_take (i := 10) (v := ?_) (Rl.arr_at (Rl.at_s (Rl.at_s (Rl.at_s (Rl.at_s (Rl.at_s (Rl.at_s (Rl.at_s (Rl.at_s (Rl.at_s (Rl.at_s Rl.at_0))))))))))) (by kernel_rfl) (by kernel_rfl) (by kernel_rfl) (fun _ _ _ h => h) (Or.inl ⟨by rfl, ?_⟩) (by assumption) ?_
      rotate_left 1
      · (intro w hSw; (try dsimp only at hSw); go_simp) <;> with_reducible rfl
      (try simp only [Act.put, List.setIfInBounds_toArray, List.set_cons_zero, List.set_cons_succ])
      refine wpAnyH_take (i := 13) (v := ?_) (Rl.arr_at (Rl.at_s (Rl.at_s (Rl.at_s (Rl.at_s (Rl.at_s (Rl.at_s (Rl.at_s (Rl.at_s (Rl.at_s (Rl.at_s (Rl.at_s (Rl.at_s (Rl.at_s Rl.at_0)))))))))))))) (by kernel_rfl) (by kernel_rfl) (by kernel_rfl) (fun _ _ _ h => h) (Or.inl ⟨by rfl, ?_⟩) (by assumption) ?_
      rotate_left 1
      · (intro w hSw; (try dsimp only at hSw); go_simp) <;> with_reducible rfl
      (try simp only [Act.put, List.setIfInBounds_toArray, List.set_cons_zero, List.set_cons_succ])
      refine wpAnyH_take (i := 14) (v := ?_) (Rl.arr_at (Rl.at_s (Rl.at_s (Rl.at_s (Rl.at_s (Rl.at_s (Rl.at_s (Rl.at_s (Rl.at_s (Rl.at_s (Rl.at_s (Rl.at_s (Rl.at_s (Rl.at_s (Rl.at_s Rl.at_0))))))))))))))) (by kernel_rfl) (by kernel_rfl) (by kernel_rfl) (fun _ _ _ h => h) (Or.inl ⟨by rfl, ?_⟩) (by assumption) ?_
      rotate_left 1
      · (intro w hSw; (try dsimp only at hSw); go_simp) <;> with_reducible rfl
      (try simp only [Act.put, List.setIfInBounds_toArray, List.set_cons_zero, List.set_cons_succ])
      refine wpAnyH_ready (rs := [8]) (by kernel_rfl) (by simp) ?_
      refine AllReadyH.cons (Rl.arr_at (Rl.at_s (Rl.at_s (Rl.at_s (Rl.at_s (Rl.at_s (Rl.at_s (Rl.at_s (Rl.at_s Rl.at_0))))))))) (fun K hK => ?_) AllReadyH.nil
      go_simp
      go_at_call 78
      refine (VX.out _ (by repeat (first | exact Ch.refl _ _ | apply Ch.drew | apply Ch.alloc))).mono ?_
      rintro e w8 ⟨rfl, rfl⟩
      (try go_wp2_with fail)
      refine hK.out _ _ (by first | (refine HKS.out _ ?_ <;> repeat (first | exact Ch.refl _ _ | apply Ch.drew | apply Ch.alloc))) (fun hHeld => ?_)
      clear hK K
      (try simp only [Act.put, List.setIfInBounds_toArray, List.set_cons_zero, List.set_cons_succ])
      refine wpAnyH_ready (rs := [11]) (by kernel_rfl) (by simp) ?_
      refine AllReadyH.cons (Rl.arr_at (Rl.at_s (Rl.at_s (Rl.at_s (Rl.at_s (Rl.at_s (Rl.at_s (Rl.at_s (Rl.at_s (Rl.at_s (Rl.at_s (Rl.at_s Rl.at_0)))))))))))) (fun K hK => ?_) AllReadyH.nil
      go_simp
      go_at_call 78
      refine (VY.out _ (by repeat (first | exact Ch.refl _ _ | apply Ch.drew | apply Ch.alloc))).mono ?_
      rintro e w8 ⟨rfl, rfl⟩
      (try go_wp2_with fail)
      refine hK.out _ _ (by first | (refine HKS.out _ ?_ <;> repeat (first | exact Ch.refl _ _ | apply Ch.drew | apply Ch.alloc))) (fun hHeld => ?_)
      clear hK K
      (try simp only [Act.put, List.setIfInBounds_toArray, List.set_cons_zero, List.set_cons_succ])
      refine wpAnyH_ready (rs := [12]) (by kernel_rfl) (by simp) ?_
      refine AllReadyH.cons (Rl.arr_at (Rl.at_s (Rl.at_s (Rl.at_s (Rl.at_s (Rl.at_s (Rl.at_s (Rl.at_s (Rl.at_s (Rl.at_s (Rl.at_s (Rl.at_s (Rl.at_s Rl.at_0))))))))))))) (fun K hK => ?_) AllReadyH.nil
      go_simp
      refine hK.out _ _ (by first | (refine HKS.out _ ?_ <;> repeat (first | exact Ch.refl _ _ | apply Ch.drew | apply Ch.alloc))) (fun hHeld => ?_)
      clear hK K
      (try simp only [Act.put, List.setIfInBounds_toArray, List.set_cons_zero, List.set_cons_succ])
      refine wpAnyH_ready (rs := [15]) (by kernel_rfl) (by simp) ?_
      refine AllReadyH.cons (Rl.arr_at (Rl.at_s (Rl.at_s (Rl.at_s (Rl.at_s (Rl.at_s (Rl.at_s (Rl.at_s (Rl.at_s (Rl.at_s (Rl.at_s (Rl.at_s (Rl.at_s (Rl.at_s (Rl.at_s (Rl.at_s Rl.at_0)))))))))))))))) (fun K hK => ?_) AllReadyH.nil
      go_simp
      refine hK.out _ _ (by first | (refine HKS.out _ ?_ <;> repeat (first | exact Ch.refl _ _ | apply Ch.drew | apply Ch.alloc))) (fun hHeld => ?_)
      clear hK K
      (try simp only [Act.put, List.setIfInBounds_toArray, List.set_cons_zero, List.set_cons_succ])
      refine wpAnyH_ready (rs := [16]) (by kernel_rfl) (by simp) ?_
      refine AllReadyH.cons (Rl.arr_at (Rl.at_s (Rl.at_s (Rl.at_s (Rl.at_s (Rl.at_s (Rl.at_s (Rl.at_s (Rl.at_s (Rl.at_s (Rl.at_s (Rl.at_s (Rl.at_s (Rl.at_s (Rl.at_s (Rl.at_s (Rl.at_s Rl.at_0))))))))))))))))) (fun K hK => ?_) AllReadyH.nil
      go_simp
      refine hK.out _ _ (by first | (refine HKS.out _ ?_ <;> repeat (first | exact Ch.refl _ _ | apply Ch.drew | apply Ch.alloc))) (fun hHeld => ?_)
      clear hK K
      (try simp only [Act.put, List.setIfInBounds_toArray, List.set_cons_zero, List.set_cons_succ])
      refine wpAnyH_ready (rs := [17]) (by kernel_rfl) (by simp) ?_
      refine AllReadyH.cons (Rl.arr_at (Rl.at_s (Rl.at_s (Rl.at_s (Rl.at_s (Rl.at_s (Rl.at_s (Rl.at_s (Rl.at_s (Rl.at_s (Rl.at_s (Rl.at_s (Rl.at_s (Rl.at_s (Rl.at_s (Rl.at_s (Rl.at_s (Rl.at_s Rl.at_0)))))))))))))))))) (fun K hK => ?_) AllReadyH.nil
      refine step_append_row (by rfl) _ _ 63 (by rfl) 71 il (.agg #[.slice none 0 0, .bool false, .bool false]) 3 32 Tryd.underlying63 hli hl0 hl1 hl2 rfl (by decide) (by rfl) HR.out ⟨w9.heap.size + 1, 0, none⟩ 1 1 [.slice (some ⟨w9.heap.size, 0, none⟩) 2 2, .bool sc, .bool false] (by rfl) rfl HN.out (by intro u hu; simp at hu; rcases hu with rfl | rfl | rfl <;> rfl) (by unfold maxLen; omega) (by omega) ?_
      intro v' w11 qs' hr4 hc4 hq4
      obtain ⟨ao4, cap4, rfl, _⟩ := hr4.rd
      obtain ⟨pS, p2⟩ := HV1.out w11 hc4
      have HKA := Lib.hid pS
      have HR4 := Lib.hid hr4
      have HC4 := Lib.hid hc4
      have HQ4 := Lib.hid hq4
      clear hr4 hc4 hq4 pS
      refine hK.out _ _ (by first | exact HKA.out | (refine HKS.out _ ?_ <;> repeat (first | exact Ch.refl _ _ | apply Ch.drew | apply Ch.alloc))) (fun hHeld => ?_)
      clear hK K
      (try simp only [Act.put, List.setIfInBounds_toArray, List.set_cons_zero, List.set_cons_succ])
      refine wpAnyH_ready (rs := [18]) (by kernel_rfl) (by simp) ?_
      refine AllReadyH.cons (Rl.arr_at (Rl.at_s (Rl.at_s (Rl.at_s (Rl.at_s (Rl.at_s (Rl.at_s (Rl.at_s (Rl.at_s (Rl.at_s (Rl.at_s (Rl.at_s (Rl.at_s (Rl.at_s (Rl.at_s (Rl.at_s (Rl.at_s (Rl.at_s (Rl.at_s Rl.at_0))))))))))))))))))) (fun K hK => ?_) AllReadyH.nil
      go_simp
      refine hK.out _ _ (by first | exact HKA.out | (refine HKS.out _ ?_ <;> repeat (first | exact Ch.refl _ _ | apply Ch.drew | apply Ch.alloc))) (fun hHeld => ?_)
      clear hK K
      (try simp only [Act.put, List.setIfInBounds_toArray, List.set_cons_zero, List.set_cons_succ])
      refine wpAnyH_ready (rs := [19]) (by kernel_rfl) (by simp) ?_
      refine AllReadyH.cons (Rl.arr_at (Rl.at_s (Rl.at_s (Rl.at_s (Rl.at_s (Rl.at_s (Rl.at_s (Rl.at_s (Rl.at_s (Rl.at_s (Rl.at_s (Rl.at_s (Rl.at_s (Rl.at_s (Rl.at_s (Rl.at_s (Rl.at_s (Rl.at_s (Rl.at_s (Rl.at_s Rl.at_0)))))))))))))))))))) (fun K hK => ?_) AllReadyH.nil
      go_simp
      refine hK.out _ _ (by first | exact HKA.out | (refine HKS.out _ ?_ <;> repeat (first | exact Ch.refl _ _ | apply Ch.drew | apply Ch.alloc))) (fun hHeld => ?_)
      clear hK K
      (try simp only [Act.put, List.setIfInBounds_toArray, List.set_cons_zero, List.set_cons_succ])
      refine wpAnyH_ready (rs := [20]) (by kernel_rfl) (by simp) ?_
      refine AllReadyH.cons (Rl.arr_at (Rl.at_s (Rl.at_s (Rl.at_s (Rl.at_s (Rl.at_s (Rl.at_s (Rl.at_s (Rl.at_s (Rl.at_s (Rl.at_s (Rl.at_s (Rl.at_s (Rl.at_s (Rl.at_s (Rl.at_s (Rl.at_s (Rl.at_s (Rl.at_s (Rl.at_s (Rl.at_s Rl.at_0))))))))))))))))))))) (fun K hK => ?_) AllReadyH.nil
      go_simp
      refine hK.out _ _ (by first | exact HKA.out | (refine HKS.out _ ?_ <;> repeat (first | exact Ch.refl _ _ | apply Ch.drew | apply Ch.alloc))) (fun hHeld => ?_)
      clear hK K
      (try simp only [Act.put, List.setIfInBounds_toArray, List.set_cons_zero, List.set_cons_succ])
      refine wpAnyH_done (by kernel_rfl) ?_ _
      refine Rl.last_list (Rl.arr_at (Rl.at_s (Rl.at_s (Rl.at_s (Rl.at_s (Rl.at_s (Rl.at_s (Rl.at_s (Rl.at_s (Rl.at_s (Rl.at_s (Rl.at_s (Rl.at_s (Rl.at_s (Rl.at_s (Rl.at_s (Rl.at_s (Rl.at_s (Rl.at_s (Rl.at_s (Rl.at_s (Rl.at_s Rl.at_0)))))))))))))))))))))) ?_
      have pw6 := HKA.out.1
      have CN := HCB.out
      have N1 : (World.alloc (w9.drew.alloc (.cells #[.int .u64 x, .int .u64 y] 24)) (.cells #[.slice (some ⟨w9.heap.size, 0, none⟩) 2 2, .bool sc, .bool false] 71)).heap[w9.heap.size]? = some (.cells #[.int .u64 x, .int .u64 y] 24 (0, 0)) := ((Ch.refl [] _).alloc _).heap HNA.out (by simp)
      have HRR : Hid (Row _ 24 1 (.slice (some ⟨w9.heap.size, 0, none⟩) 2 2) [w9.heap.size] 2 (ints .u64 [x, y])) := Lib.hid (⟨by simp [ints], some ⟨w9.heap.size, 0, none⟩, 2, rfl, Nat.le_refl _, by unfold maxLen; omega, (fun e => by cases e), .inr ⟨w9.heap.size, 0, _, by simp, rfl, N1, by simp, fun j hj => by
        rcases (by omega : j = 0 ∨ j = 1) with e | e <;> subst e <;> rfl⟩⟩)
      have hsz1 : w9.heap.size < (World.alloc (w9.drew.alloc (.cells #[.int .u64 x, .int .u64 y] 24)) (.cells #[.slice (some ⟨w9.heap.size, 0, none⟩) 2 2, .bool sc, .bool false] 71)).heap.size := lt_of N1
      have HLA : Hid (∃ O' a', WM w0 (w11.setCell ⟨wp, 6, none⟩ (.slice ao4 (nl + 1) cap4)) O' wp a' V' ∧ ∀ x, x < w9.heap.size → O x = 0 → O' x = 0) := Lib.hid (by
        rw [HV3.out]
        have := WM.laneAdd2 H9.out (l := ⟨[x, y], sc, false⟩) (ao := ao4) (cap := cap4) (q := qs') CN HRR.out (fun b hb => by simp at hb; subst hb; exact ⟨Nat.le_refl _, hsz1⟩) (by rw [HNL.out]; exact HR4.out) HC4.out HQS.out (fun b hb => by
          rcases HQ4.out with e | ⟨q', e, h1, h2⟩
          · rw [e] at hb; exact .inl (HQS.out b hb)
          · rw [e] at hb; simp at hb; subst hb; exact .inr ⟨h1, h2⟩)
        rw [HNL.out] at this
        exact this)
      have HCS : Hid (Ch (wp :: qs) w9 (w11.setCell ⟨wp, 6, none⟩ (.slice ao4 (nl + 1) cap4))) := Lib.hid (((HCB.out.mono (by simp)).trans' (HC4.out.mono (fun b hb => by simp [hb]))).setCell _ _ (.inl (by simp)))
      have HOW := Lib.hid H9.out.o1
      clear hsz1 N1 CN
      go_upto_region 14 with fail
      generalize w11.setCell ⟨wp, 6, none⟩ (.slice ao4 (nl + 1) cap4) = w5 at *
      obtain ⟨O5, a5, k1, k2⟩ := HLA.out
      have K1 := Lib.hid k1
      have K3 : Hid (Un w O w5 O5) := Lib.hid (HU9.out.trans (Un.of HCS.out (fun b hb => by
        rcases List.mem_cons.1 hb with e | e
        · rw [e, HOW.out]; omega
        · rw [HQS.out b e]; omega) k2))
      clear HLA k1 k2 pw6 HV3 HKA
      have HO := holds_any K1.out HGS.out HB.out
      have p0 : w5.cell? ⟨wp, 0, none⟩ = some (.slice a5.ac V'.cells.length a5.cc) := K1.out.wpc 0
      have p1 : w5.cell? ⟨wp, 1, none⟩ = some (.int .u8 V'.ph) := K1.out.wpc 1
      have p2 : w5.cell? ⟨wp, 2, none⟩ = some (.int .i64 V'.sw) := K1.out.wpc 2
      have p3 : w5.cell? ⟨wp, 3, none⟩ = some (.slice a5.ag V'.grey.length a5.cg) := K1.out.wpc 3
      have p4 : w5.cell? ⟨wp, 4, none⟩ = some (.slice a5.agl V'.globals.length a5.cgl) := K1.out.wpc 4
      have p5 : w5.cell? ⟨wp, 5, none⟩ = some (.int .i64 V'.laid) := K1.out.wpc 5
      have p6 : w5.cell? ⟨wp, 6, none⟩ = some (.slice a5.al V'.lanes.length a5.cl) := K1.out.wpc 6
      unfold VA.arr at HO
      have HZ : Hid (∀ W6, Ch [] w5 W6 → MX w0 w O W6 wp V') := Lib.hid (fun W6 h6 => ⟨O5, a5, K1.out.chs h6, K3.out.trans (Un.ch h6)⟩)
      generalize holdsI V' = hI at *
      generalize V'.cells.length = t0 at *
      generalize V'.grey.length = t3 at *
      generalize V'.globals.length = t4 at *
      generalize V'.lanes.length = t6 at *
      go_wp2_with fail
      refine HO.mono ?_
      rintro e w6 ⟨rfl, c7⟩
      have Z := HZ.out w6 c7
      clear HO p0 p1 p2 p3 p4 p5 p6 c7
      go_wp2_with fail
      go_ret
      exact ⟨rfl, Z⟩
    · have lt8 : (decide ((nl : Int) < 8)) = false := by simp; omega
      have HV3 : Hid (V' = v) := Lib.hid (by rw [HV2.out, if_neg h8])
      have K1 : Hid (WM w0 w9 O wp a V') := Lib.hid (by rw [HV3.out]; exact H9.out)
      have K3 := HU9
      clear h8 z0 z1 c6 e2 e3
      obtain ⟨w5, hw5⟩ : ∃ w5, w5 = w9 := ⟨_, rfl⟩
      subst hw5
      have HLV : Hid (V'.lanes.length = nl) := Lib.hid (by rw [HV3.out]; exact HNL.out)
      clear HV3
      have HO := holds_any K1.out HGS.out HB.out
      have p0 : w5.cell? ⟨wp, 0, none⟩ = some (.slice a.ac V'.cells.length a.cc) := K1.out.wpc 0
      have p1 : w5.cell? ⟨wp, 1, none⟩ = some (.int .u8 V'.ph) := K1.out.wpc 1
      have p2 : w5.cell? ⟨wp, 2, none⟩ = some (.int .i64 V'.sw) := K1.out.wpc 2
      have p3 : w5.cell? ⟨wp, 3, none⟩ = some (.slice a.ag V'.grey.length a.cg) := K1.out.wpc 3
      have p4 : w5.cell? ⟨wp, 4, none⟩ = some (.slice a.agl V'.globals.length a.cgl) := K1.out.wpc 4
      have p5 : w5.cell? ⟨wp, 5, none⟩ = some (.int .i64 V'.laid) := K1.out.wpc 5
      have p6 : w5.cell? ⟨wp, 6, none⟩ = some (.slice a.al V'.lanes.length a.cl) := K1.out.wpc 6
      unfold VA.arr at HO
      have HZ : Hid (∀ W6, Ch [] w5 W6 → MX w0 w O W6 wp V') := Lib.hid (fun W6 h6 => ⟨O, a, K1.out.chs h6, K3.out.trans (Un.ch h6)⟩)
      generalize holdsI V' = hI at *
      generalize V'.cells.length = t0 at *
      generalize V'.grey.length = t3 at *
      generalize V'.globals.length = t4 at *
      rw [HLV.out, HAL.out] at HO p6
      go_wp2_with fail
      refine HO.mono ?_
      rintro e w6 ⟨rfl, c7⟩
      have Z := HZ.out w6 c7
      clear HO p0 p1 p2 p3 p4 p5 p6 c7
      go_wp2_with fail
      go_ret
      exact ⟨rfl, Z⟩
end Go.Proofs.YtlhhcocdhkbdnaaDoor.Kp
