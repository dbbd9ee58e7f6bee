/-
  THE WALKS of BarrierKeeps: pick, value, takes, cell.
  THE WALKS of BarrierKeeps, on: cell.
  THE WALKS of BarrierKeeps, on: shade, words.
-/
import Derived.Test.YtlhhcocdhkbdnaaDoorQJKeepM3
import Derived.Test.YtlhhcocdhkbdnaaDoorQJRef10b
import Derived.StillTailTactics
import Derived.Deep.DeepCutAuto
import Derived.Deep.CutBlock
set_option linter.unusedVariables false
set_option linter.unusedSimpArgs false
set_option maxRecDepth 100000
namespace Go.Proofs.YtlhhcocdhkbdnaaDoor.Kp
open Go.RowKit Go.Proofs.YtlhhcocdhkbdnaaDoor.Wd Go.Proofs.YtlhhcocdhkbdnaaDoor.Hp Go.Proofs.YtlhhcocdhkbdnaaDoor.Gp Go.Proofs.YtlhhcocdhkbdnaaDoor.Sm Go.Proofs.YtlhhcocdhkbdnaaDoor.Gr Go.Proofs.YtlhhcocdhkbdnaaDoor.Bp Go.Proofs.YtlhhcocdhkbdnaaDoor.Own
def I64 (c : Int) : Prop := -9223372036854775808 ≤ c ∧ c ≤ 9223372036854775807
theorem pick_any (w : World) (c : Int) (n : Nat) (hc : I64 c) (hn : 0 < n) (hm : n ≤ 1000000) :
    Calls Tryd.prog 77 #[.int .i64 c, .int .i64 n] w fun e w' => e = .returned (.int .i64 (pickN c n : Nat)) ∧ w' = w := by
  obtain ⟨h0, h1⟩ := hc
  have hp := (pick_cast c n hn).1
  have hne : ((n : Int) == 0) = false := by simp; omega
  have hz : ¬ (n : Int) = 0 := by omega
  have HE : ∀ x : Int, 0 ≤ x → x.tmod n = x % n := fun x hx => Int.tmod_eq_emod_of_nonneg hx
  rw [hp]
  clear hp
  unfold pickI
  by_cases hc : c < 0
  · rw [if_pos hc]
    have a1 : wrap64 (c + 1) = c + 1 := by unfold wrap64; omega
    have a2 : wrap64 (-(c + 1)) = -(c + 1) := by unfold wrap64; omega
    have a3 := HE (-(c + 1)) (by omega)
    have a4 := Int.emod_nonneg (-(c + 1)) hz
    have a5 := Int.emod_lt_of_pos (-(c + 1)) (show (0 : Int) < n by omega)
    obtain ⟨d, hd⟩ : ∃ d, d = -(c + 1) := ⟨_, rfl⟩
    rw [← hd] at a2 a3 a4 a5 ⊢
    have a6 : wrap64 (d % (n : Int)) = d % n := by unfold wrap64; omega
    have HD := Lib.hid hd
    clear h0 h1 hn HE hd
    go_enter Tryd.func77, Tryd.ntmps77
    go_wp2_with fail
    go_ret
    refine ⟨?_, rfl⟩
    simp only [← HD.out, a2, a3]
    rfl
  · rw [if_neg hc]
    have a3 := HE c (by omega)
    have a4 := Int.emod_nonneg c hz
    have a5 := Int.emod_lt_of_pos c (show (0 : Int) < n by omega)
    have a6 : wrap64 (c % (n : Int)) = c % n := by unfold wrap64; omega
    clear h0 h1 hn HE
    go_enter Tryd.func77, Tryd.ntmps77
    go_wp2_with fail
    go_ret
    refine ⟨?_, rfl⟩
    simp only [a3]
    rfl
theorem value_any (w : World) (b o : Nat) (ro : Option Addr) (rc : Nat) (l : Ln) (c : Int) (hc : I64 c) (hn : l.roots.length ≤ 1000) (h0 : w.cell? ⟨b, o, none⟩ = some (.slice ro l.roots.length rc)) (hr : Hp.Rd w ro l.roots.length (ints .u64 l.roots)) :
    Calls Tryd.prog 78 #[.pointer (some ⟨b, o, none⟩), .int .i64 c] w fun e w' => e = .returned (.int .u64 (valK l c)) ∧ w' = w := by
  have P := pick_any w c (l.roots.length + 1) hc (by omega) (by omega)
  have hp := pick_lt c (show 0 < l.roots.length + 1 by omega)
  have IA := Rd.Int_any w 3
  have e0 : ((l.roots.length + 1 : Nat) : Int) = (l.roots.length : Int) + 1 := by omega
  rw [e0] at P
  unfold valK
  by_cases hk : pickN c (l.roots.length + 1) = l.roots.length
  · rw [if_pos hk]
    rw [hk] at P
    unfold i3
    clear hr hk hp e0
    generalize l.roots.length = n at *
    go_enter Tryd.func78, Tryd.ntmps78
    go_wp2_with fail
    refine P.mono ?_
    rintro e w2 ⟨rfl, rfl⟩
    clear P
    go_wp2_with fail
    refine IA.mono ?_
    rintro e w3 ⟨rfl, rfl⟩
    go_wp2_with fail
    go_ret
    exact ⟨rfl, rfl⟩
  · rw [if_neg hk]
    have hlt : pickN c (l.roots.length + 1) < l.roots.length := by omega
    obtain ⟨rb, off, rfl, hj⟩ := hr.2.resolve_left (by omega)
    have k1 := (hj _ hlt).trans (ints_get hlt)
    have ltI : ((pickN c (l.roots.length + 1) : Nat) : Int) < l.roots.length := by omega
    have hne : ((pickN c (l.roots.length + 1) : Int) == (l.roots.length : Int)) = false := by simp; omega
    clear hr hj hk IA hp e0
    generalize l.roots.getD (pickN c (l.roots.length + 1)) 0 = x at *
    generalize pickN c (l.roots.length + 1) = k at *
    generalize l.roots.length = n at *
    go_enter Tryd.func78, Tryd.ntmps78
    go_wp2_with fail
    refine P.mono ?_
    rintro e w2 ⟨rfl, rfl⟩
    clear P
    go_wp2_with fail
    go_ret
    exact ⟨rfl, rfl⟩
/-- What a call leaves of the view; the lanes stay where they lie. -/
structure Un (w : World) (O : Nat → Nat) (w' : World) (O' : Nat → Nat) : Prop where
  sz : w.heap.size ≤ w'.heap.size
  un : ∀ b, b < w.heap.size → O b = 0 → w'.heap[b]? = w.heap[b]? ∧ O' b = 0
theorem Un.refl (w : World) (O : Nat → Nat) : Un w O w O := ⟨Nat.le_refl _, fun _ _ h => ⟨rfl, h⟩⟩
theorem Un.trans {w w1 w2 : World} {O O1 O2 : Nat → Nat} (h : Un w O w1 O1) (k : Un w1 O1 w2 O2) : Un w O w2 O2 := ⟨Nat.le_trans h.sz k.sz, fun b hb h0 => by
  obtain ⟨e1, e2⟩ := h.un b hb h0
  obtain ⟨e3, e4⟩ := k.un b (Nat.lt_of_lt_of_le hb h.sz) e2
  exact ⟨e3.trans e1, e4⟩⟩
theorem Un.of {w w' : World} {O O' : Nat → Nat} {T : List Nat} (hc : Ch T w w') (hT : ∀ x ∈ T, O x ≠ 0) (hO : ∀ x, x < w.heap.size → O x = 0 → O' x = 0) : Un w O w' O' := ⟨hc.size, fun b hb h0 => ⟨hc.block b hb (fun hm => hT b hm h0), hO b hb h0⟩⟩
theorem Un.ch {w w' : World} {O : Nat → Nat} (hc : Ch [] w w') : Un w O w' O := Un.of hc (by simp) (fun _ _ h => h)
theorem put_un {w w1 : World} {O : Nat → Nat} {id : Nat} {q : List Nat} (h0 : id ≠ 0) (hq : ∀ x ∈ q, O x = id ∨ (w.heap.size ≤ x ∧ x < w1.heap.size)) : ∀ x, x < w.heap.size → O x = 0 → put O id q x = 0 := fun x hx h1 => by
  unfold put
  rw [if_neg, h1]
  intro hm
  rcases hq x hm with e | e
  · omega
  · omega
/-- What lies where it lay. -/
structure SmA (a a' : VA) : Prop where
  al : a'.al = a.al
  ac : a'.ac = a.ac
  cc : a'.cc = a.cc
  gl : a'.agl = a.agl
  cg : a'.cgl = a.cgl
theorem SmA.refl (a : VA) : SmA a a := ⟨rfl, rfl, rfl, rfl, rfl⟩
theorem SmA.trans {a b c : VA} (h : SmA a b) (k : SmA b c) : SmA a c := ⟨k.al.trans h.al, k.ac.trans h.ac, k.cc.trans h.cc, k.gl.trans h.gl, k.cg.trans h.cg⟩
def MW (w0 w : World) (O : Nat → Nat) (w' : World) (wp : Nat) (a : VA) (v' : Vw) : Prop := ∃ O' a', WM w0 w' O' wp a' v' ∧ SmA a a' ∧ Un w O w' O'
theorem takes_any {w0 w : World} {O : Nat → Nat} {wp : Nat} {a : VA} {v : Vw} (h : WM w0 w O wp a v) {j : Nat} (hj : j < v.lanes.length) {q off : Nat} (hal : a.al = some ⟨q, off, none⟩) (x : Int) (hn : (v.lanes.getD j ln0).roots.length ≤ 1000) :
    Calls Tryd.prog 97 #[.pointer (some ⟨q, off + j * 3, none⟩), .int .u64 x] w fun e w' => e = .returned (.tuple #[]) ∧ MW w0 w O w' wp a (setL v j (takesK (v.lanes.getD j ln0) x)) := by
  obtain ⟨q', off', e1, e2, e3, e4⟩ := h.lane hj
  rw [hal] at e1
  simp only [Option.some.injEq, Addr.mk.injEq, and_true] at e1
  obtain ⟨rfl, rfl⟩ := e1
  have k0 : w.cell? ⟨q, off + j * 3, none⟩ = some (.slice (a.la j) (v.lanes.getD j ln0).roots.length (a.lc j)) := e3 j 0 hj (by omega)
  have f0 : w.frozen? ⟨q, off + j * 3, none⟩ = false := e4 (j * 3)
  by_cases hlt : (v.lanes.getD j ln0).roots.length < 40
  · have ltI : ((v.lanes.getD j ln0).roots.length : Int) < 40 := by omega
    have etk : takesK (v.lanes.getD j ln0) x = { v.lanes.getD j ln0 with roots := (v.lanes.getD j ln0).roots ++ [x] } := by unfold takesK; rw [if_pos hlt]
    rw [etk]
    obtain ⟨i0, hi, he⟩ := Option.map_eq_some_iff.1 Gr.infoWord
    simp only [Prod.mk.injEq] at he
    obtain ⟨hz0, hz1, hz2⟩ := he
    obtain ⟨qs, hrow, hqs⟩ := h.rt j hj
    have C1 : Ch [] w (w.alloc (.cells #[.int .u64 x] 24)) := (Ch.refl _ _).alloc _
    have HR := Lib.hid (hrow.ch C1 (by simp))
    have HN := Lib.hid (newL (w := w) (b := w.heap.size) rfl [.int .u64 x] 24)
    have HW := Lib.hid (h.chs C1)
    have HQS : Hid (∀ y ∈ qs, O y = 6 + j) := Lib.hid hqs
    have HH := Lib.hid h
    have HQ5 : Hid (O q = 5) := Lib.hid e2
    have HAL := Lib.hid hal
    have HE := Lib.hid e3
    have HF := Lib.hid e4
    have hk1 : ∀ W, Ch qs (w.alloc (.cells #[.int .u64 x] 24)) W → W.cell? ⟨q, off + j * 3, none⟩ = some (.slice (a.la j) (v.lanes.getD j ln0).roots.length (a.lc j)) ∧ W.frozen? ⟨q, off + j * 3, none⟩ = false := fun W hW => by
      have hnq : q ∉ qs := fun hm => by have := hqs q hm; omega
      obtain ⟨q', off', g1, g2, g3, g4, _⟩ := ((h.chs C1).ln.keep (by omega) hW (Ext.refl O) (fun y hy => by rw [hqs y hy]; omega)).at_ (by omega)
      rw [hal] at g1
      simp only [Option.some.injEq, Addr.mk.injEq, and_true] at g1
      obtain ⟨rfl, rfl⟩ := g1
      exact ⟨(g3 (j * 3 + 0) (by omega)).trans (lanesV_get a v j 0 hj (by omega)), g4 (j * 3)⟩
    have HK1 := Lib.hid hk1
    have HJ := Lib.hid hj
    have ej : (v.lanes.getD j ln0).roots.length + 1 = ((v.lanes.getD j ln0).roots ++ [x]).length := by simp
    have HEJ := Lib.hid ej
    clear e3 e4 hrow hqs C1 h hal hk1 ej etk hlt
    generalize hnn : (v.lanes.getD j ln0).roots.length = n at *
    have HNN := Lib.hid hnn.symm
    clear hnn hj
    have HJ2 := HJ
    go_enter Tryd.func97, Tryd.ntmps97
    go_wp2_with (at_builtin; go_loud (refine wpList_append_row _ rfl _ _ 62 rfl 24 i0 _ 1 8 Tryd.underlying62 hi hz0 hz1 hz2 rfl (by decide) rfl HR.out ⟨w.heap.size, 0, none⟩ 1 1 [.int .u64 x] rfl rfl HN.out (one1 _ _) (by unfold maxLen; omega) (by omega) ?_))
    intro v' w4 qs' hr4 hc4 hq4
    obtain ⟨ao4, cap4, rfl, _⟩ := hr4.rd
    obtain ⟨k1, f1⟩ := HK1.out w4 hc4
    have Z : Hid (MW w0 w O (w4.setCell ⟨q, off + j * 3, none⟩ (.slice ao4 (n + 1) cap4)) wp a (setL v j { v.lanes.getD j ln0 with roots := (v.lanes.getD j ln0).roots ++ [x] })) := Lib.hid (by
      have hsz : (w.alloc (.cells #[.int .u64 x] 24)).heap.size = w.heap.size + 1 := World.size_alloc _ _
      rw [HEJ.out]
      have hr5 : Row w4 24 1 (.slice ao4 ((v.lanes.getD j ln0).roots ++ [x]).length cap4) qs' ((v.lanes.getD j ln0).roots ++ [x]).length (ints .u64 ((v.lanes.getD j ln0).roots ++ [x])) := by
        rw [← HEJ.out, show ints .u64 ((v.lanes.getD j ln0).roots ++ [x]) = ints .u64 (v.lanes.getD j ln0).roots ++ [.int .u64 x] by simp [ints]]
        exact hr4
      have hqq : ∀ y ∈ qs', O y = 6 + j ∨ ((w.alloc (.cells #[.int .u64 x] 24)).heap.size ≤ y ∧ y < w4.heap.size) := fun y hy => by
        rcases hq4 with e | ⟨q', e, h1, h2⟩
        · rw [e] at hy; exact .inl (HQS.out y hy)
        · rw [e] at hy; simp at hy; subst hy; exact .inr ⟨by omega, h2⟩
      exact ⟨_, _, HW.out.laneR HJ.out HAL.out hr5 hc4 HQS.out hqq, ⟨rfl, rfl, rfl, rfl, rfl⟩, (Un.ch ((Ch.refl [] w).alloc _)).trans (Un.of ((hc4.mono (T := q :: qs) (fun y hy => List.mem_cons_of_mem _ hy)).setCell _ _ (.inl (by simp))) (fun y hy => by
        rcases List.mem_cons.1 hy with e | hy
        · rw [e, HQ5.out]; omega
        · rw [HQS.out y hy]; omega) (put_un (by omega) hqq))⟩)
    clear hr4 hc4 hq4
    go_wp2_with fail
    go_end0
    exact ⟨rfl, Z.out⟩
  · have ltI : ¬ ((v.lanes.getD j ln0).roots.length : Int) < 40 := by omega
    have etk : setL v j (takesK (v.lanes.getD j ln0) x) = v := by
      unfold takesK setL; rw [if_neg hlt]
      have : v.lanes.set j (v.lanes.getD j ln0) = v.lanes := by
        apply List.ext_getElem?
        intro i
        by_cases e : i = j
        · subst e; rw [List.getElem?_set_self hj]; simp [List.getD_eq_getElem?_getD, hj]
        · rw [List.getElem?_set_ne (Ne.symm e)]
      rw [this]
    rw [etk]
    have HH := Lib.hid h
    clear h e3 e4 hlt etk hal
    generalize (v.lanes.getD j ln0).roots.length = n at *
    go_enter Tryd.func97, Tryd.ntmps97
    go_wp2_with fail
    go_end0
    exact ⟨rfl, O, a, HH.out, SmA.refl a, Un.refl _ _⟩
end Go.Proofs.YtlhhcocdhkbdnaaDoor.Kp

set_option linter.unusedVariables false
set_option linter.unusedSimpArgs false
set_option maxRecDepth 100000
namespace Go.Proofs.YtlhhcocdhkbdnaaDoor.Kp
open Go.RowKit Go.Proofs.YtlhhcocdhkbdnaaDoor.Wd Go.Proofs.YtlhhcocdhkbdnaaDoor.Hp Go.Proofs.YtlhhcocdhkbdnaaDoor.Gp Go.Proofs.YtlhhcocdhkbdnaaDoor.Sm Go.Proofs.YtlhhcocdhkbdnaaDoor.Gr Go.Proofs.YtlhhcocdhkbdnaaDoor.Bp Go.Proofs.YtlhhcocdhkbdnaaDoor.Own
def clsP (v : Vw) (ws : List Int) : List Nat := (ws.filter (fun x => isRef x && nofree (cel v (cl x)))).map cl
theorem clsP_snoc (v : Vw) (ws : List Int) (x : Int) : clsP v (ws ++ [x]) = clsP v ws ++ (if (isRef x && nofree (cel v (cl x))) = true then [cl x] else []) := by
  unfold clsP
  rw [List.filter_append, List.map_append]
  congr 1
  cases h : (isRef x && nofree (cel v (cl x)))
  · rw [List.filter_cons_of_neg (p := fun x => isRef x && nofree (cel v (cl x))) (by rw [h]; simp)]; rfl
  · rw [List.filter_cons_of_pos (p := fun x => isRef x && nofree (cel v (cl x))) h]; rfl
theorem clsP_len (v : Vw) (ws : List Int) : (clsP v ws).length ≤ ws.length := by unfold clsP; rw [List.length_map]; exact List.length_filter_le _ _
theorem nv_snoc' (l : List Nat) (x : Nat) : nv (l ++ [x]) = nv l ++ [.int .i64 (x : Int)] := by simp [nv]
theorem take_snoc' {α : Type} (l : List α) (j : Nat) (d : α) (h : j < l.length) : l.take (j + 1) = l.take j ++ [l.getD j d] := by
  rw [List.take_succ_eq_append_getElem h]; simp [List.getD_eq_getElem?_getD, h]
def celA (o : Option Nat) : Value := .tuple #[.int .i64 ((o.getD 0 : Nat) : Int), .bool o.isSome]
set_option maxHeartbeats 8000000 in
theorem cell_any {w0 w : World} {O : Nat → Nat} {wp : Nat} {a : VA} {v : Vw} (h : WM w0 w O wp a v) (gv : GV v) {j : Nat} (hj : j < v.lanes.length) {q off : Nat} (hal : a.al = some ⟨q, off, none⟩) (c : Int) (hc : I64 c) :
    Calls Tryd.prog 96 #[.pointer (some ⟨wp, 0, none⟩), .pointer (some ⟨q, off + j * 3, none⟩), .int .i64 c] w fun e w' => e = .returned (celA (celK v (v.lanes.getD j ln0) c)) ∧ Ch [] w w' := by
  obtain ⟨q', off', e1, e2, e3, e4⟩ := h.lane hj
  rw [hal] at e1
  simp only [Option.some.injEq, Addr.mk.injEq, and_true] at e1
  obtain ⟨rfl, rfl⟩ := e1
  have k0 : w.cell? ⟨q, off + j * 3, none⟩ = some (.slice (a.la j) (v.lanes.getD j ln0).roots.length (a.lc j)) := e3 j 0 hj (by omega)
  have KL : Hid (∀ W, Ch [] w W → W.cell? ⟨q, off + j * 3, none⟩ = some (.slice (a.la j) (v.lanes.getD j ln0).roots.length (a.lc j))) := Lib.hid (fun W hW => hW.cell k0 (by simp))
  have KW : Hid (∀ W, Ch [] w W → W.cell? ⟨wp, 0, none⟩ = some (.slice a.ac v.cells.length a.cc)) := Lib.hid (fun W hW => hW.cell (h.wpc 0) (by simp))
  have HRD := Lib.hid (h.rt j hj).rd.1
  have HOK := Lib.hid (gv.rootsOk hj)
  have hn := gv.nr _ (getD_memD ln0 hj)
  have HGV := Lib.hid gv
  have HH := Lib.hid h
  have HC := Lib.hid hc
  obtain ⟨i0, hi, he⟩ := Option.map_eq_some_iff.1 Gr.infoInt
  simp only [Prod.mk.injEq] at he
  obtain ⟨hz0, hz1, hz2⟩ := he
  have hcl : ∀ l : Ln, clsK v l = clsP v l.roots := fun l => rfl
  have HCL := Lib.hid hcl
  have HLE := Lib.hid (fun k => clsP_len v ((v.lanes.getD j ln0).roots.take k))
  clear e3 e4 k0 hc h gv hcl hal e2
  unfold celK
  rw [HCL.out]
  generalize hrs : (v.lanes.getD j ln0).roots = rs at *
  generalize a.la j = ra at *
  generalize a.lc j = rc at *
  generalize hnr : rs.length = nr at *
  have HNR := Lib.hid hnr
  have HNC : Hid (∃ n, n = v.cells.length) := Lib.hid ⟨_, rfl⟩
  obtain ⟨nc, hnc⟩ := HNC.out
  rw [← hnc] at KW
  have HNCC := Lib.hid hnc
  have KC : Hid (∀ (W : World) (i : Nat), Ch [] w W → i < nc → ∃ qc offc, a.ac = some ⟨qc, offc, none⟩ ∧ W.cell? ⟨qc, offc + i * 4, none⟩ = some (.int .u8 (cel v i).k)) := Lib.hid (fun W i hW hi => by
    rw [hnc] at hi
    obtain ⟨qc, offc, g1, g2, _⟩ := (HH.out.chs hW).cell hi
    exact ⟨qc, offc, g1, g2 i 0 hi (by omega)⟩)
  obtain ⟨rv, hrv⟩ : ∃ rv, rv = celA (if (clsP v rs).length = 0 then none else some ((clsP v rs).getD (pickN c (clsP v rs).length) 0)) := ⟨_, rfl⟩
  rw [← hrv]
  have HRV := Lib.hid hrv
  clear hrs hnr hj HNC hnc hrv
  go_enter Tryd.func96, Tryd.ntmps96
  go_wp2_with fail
  go_loopw [9, 8] (fun i o wr => ∃ (k : Nat) (qs : List Nat), i = .int .i64 k ∧ k ≤ nr ∧ Row wr 3 1 o qs (clsP v (rs.take k)).length (nv (clsP v (rs.take k))) ∧ Ch [] w wr ∧ ∀ x ∈ qs, w.heap.size ≤ x) (fun i _ _ => nr - (intOf i).toNat)
  case atStart => exact ⟨0, [], rfl, by omega, Row.nil _ _ _ _, Ch.refl _ _, by simp⟩
  case round =>
    obtain ⟨k, qs, rfl, hk, ho, hch, hq⟩ := hrel
    have HOR := Lib.hid ho
    have HCH := Lib.hid hch
    have HQ := Lib.hid hq
    obtain ⟨ao2, cap2, rfl, o1, o2, o3⟩ := ho.rd
    have hlo := HLE.out k
    rw [List.length_take, HNR.out] at hlo
    have l0 := KL.out wr hch
    have c0 := KW.out wr hch
    by_cases hlt : k < nr
    · have ltK : (k : Int) < nr := by omega
      have hkl : k < rs.length := by rw [HNR.out]; exact hlt
      have hrd := HRD.out
      obtain ⟨rb, ro, rfl, hjj⟩ := hrd.2.resolve_left (by omega)
      have a1 := hch.cell ((hjj k (by omega)).trans (ints_get hkl)) (by simp)
      have hx := HOK.out (rs.getD k 0) (getD_memD 0 hkl)
      have TK : Hid (clsP v (rs.take (k + 1)) = clsP v (rs.take k) ++ (if (isRef (rs.getD k 0) && nofree (cel v (cl (rs.getD k 0)))) = true then [cl (rs.getD k 0)] else [])) := Lib.hid (by rw [take_snoc' rs k 0 hkl, clsP_snoc])
      generalize rs.getD k 0 = x at *
      have CC := Rd.Cell_any wr x hx.2.1 hx.2.2
      have hrg := cellN_range x
      have hcn : isRef x = true → cellN x < nc := fun hr => by
        have := hx.1
        unfold isWord at this
        rw [hr] at this
        simp only [Bool.and_eq_true, Bool.not_true, Bool.false_or, decide_eq_true_eq] at this
        rw [HNCC.out]; exact this.2
      clear hjj hkl ho hch hq o3 hx hrd
      generalize clsP v (rs.take k) = oj at *
      generalize hoL : oj.length = noj at *
      have HOL := Lib.hid hoL
      clear hoL
      cases href : isRef x
      · rw [href] at CC TK
        simp only [Bool.false_and, Bool.false_eq_true, if_false, List.append_nil] at TK
        clear href hrg hcn
        generalize cellN x = cv at *
        go_wp2_with fail
        refine CC.mono ?_
        rintro e w2 ⟨rfl, rfl⟩
        clear CC
        go_wp2_with fail
        go_roundw
        case rel => exact ⟨k + 1, qs, by go_num, by omega, by rw [TK.out, HOL.out]; exact HOR.out, HCH.out, HQ.out⟩
        case measure => simp [intOf]; omega
      · rw [href] at CC TK
        simp only [Bool.true_and] at TK
        have hcn2 := hcn href
        obtain ⟨d, hd⟩ : ∃ d, d = cl x := ⟨_, rfl⟩
        have hdv : cellN x = (d : Int) := by rw [hd]; show cellN x = ((cellN x).toNat : Int); omega
        have hdl : d < nc := by omega
        have ltD : (d : Int) < nc := by omega
        rw [← hd] at TK
        rw [hdv] at CC
        obtain ⟨qc, offc, hac, kk⟩ := KC.out wr d HCH.out hdl
        rw [hac] at c0 KW
        unfold nofree at TK
        clear href hrg hcn hcn2 hdv hd hdl
        generalize (cel v d).k = kd at *
        by_cases hk0 : kd = 0
        · subst hk0
          simp only [bne_self_eq_false, Bool.false_eq_true, if_false, List.append_nil] at TK
          go_wp2_with fail
          refine CC.mono ?_
          rintro e w2 ⟨rfl, rfl⟩
          clear CC
          go_wp2_with fail
          go_roundw
          case rel => exact ⟨k + 1, qs, by go_num, by omega, by rw [TK.out, HOL.out]; exact HOR.out, HCH.out, HQ.out⟩
          case measure => simp [intOf]; omega
        · have hkb : (kd != 0) = true := by simpa using hk0
          rw [if_pos hkb] at TK
          clear hk0
          go_wp2_with fail
          refine CC.mono ?_
          rintro e w2 ⟨rfl, rfl⟩
          have CA := Lib.hid ((Ch.refl [] w2).alloc (.cells #[.int .i64 (d : Int)] 3))
          have HR1 := Lib.hid (HOR.out.ch CA.out (by simp))
          have HN1 := Lib.hid (newL (w := w2) (b := w2.heap.size) rfl [.int .i64 (d : Int)] 3)
          clear CC a1
          go_wp2_with (at_builtin; go_loud (refine wpList_append_row _ rfl _ _ 50 rfl 3 i0 _ 1 8 Tryd.underlying50 hi hz0 hz1 hz2 rfl (by decide) rfl HR1.out ⟨w2.heap.size, 0, none⟩ 1 1 [.int .i64 (d : Int)] rfl rfl HN1.out (one1 _ _) (by unfold maxLen; omega) (by omega) ?_))
          intro v' w3 oq' hr4 hc4 hq4
          obtain ⟨ao4, cap4, rfl, _⟩ := hr4.rd
          have HR4 := Lib.hid hr4
          have HC4 := Lib.hid hc4
          have HQ4 := Lib.hid hq4
          clear hr4 hc4 hq4
          go_wp2_with fail
          go_roundw
          case rel =>
            have s1 := HCH.out.size
            have s2 := CA.out.size
            refine ⟨k + 1, oq', by go_num, by omega, by rw [TK.out, List.length_append, HOL.out, nv_snoc']; exact HR4.out, (HCH.out.trans0 CA.out).trans HC4.out (fun y hy => .inr (HQ.out y hy)), fun y hy => ?_⟩
            rcases HQ4.out with e | ⟨q', e, h1, h2⟩
            · rw [e] at hy; exact HQ.out y hy
            · rw [e] at hy; simp at hy; subst hy; omega
          case measure => simp [intOf]; omega
    · have ltK : ¬ (k : Int) < nr := by omega
      obtain rfl : nr = k := by omega
      have e1 : rs.take nr = rs := List.take_of_length_le (by rw [HNR.out]; exact Nat.le_refl _)
      rw [e1] at HOR o1 o3 hlo ⊢
      clear ho hch hq e1
      generalize clsP v rs = all at *
      by_cases h0 : all.length = 0
      · rw [if_pos h0] at HRV
        rw [h0] at o1 ⊢
        clear o3 h0 hlo
        go_wp2_with fail
        go_ret2
        exact ⟨by rw [HRV.out]; rfl, HCH.out⟩
      · rw [if_neg h0] at HRV
        have P := pick_any wr c all.length HC.out (by omega) (by omega)
        have hp := pick_lt c (show 0 < all.length by omega)
        obtain ⟨ob, oo, rfl, hjj⟩ := o3.2.resolve_left (by omega)
        have a1 : wr.cell? ⟨ob, oo + pickN c all.length, none⟩ = some (.int .i64 ((all.getD (pickN c all.length) 0 : Nat) : Int)) := by
          rw [hjj (pickN c all.length) (by omega)]
          simp [nv, List.getD_eq_getElem?_getD, hp]
        have ltP : ((pickN c all.length : Nat) : Int) < all.length := by omega
        have hne : ((all.length : Int) == 0) = false := beq_eq_false_iff_ne.2 (by omega)
        clear hjj o3 h0 hlo hp
        generalize all.getD (pickN c all.length) 0 = d at *
        generalize pickN c all.length = p at *
        generalize all.length = na at *
        go_wp2_with fail
        refine P.mono ?_
        rintro e w2 ⟨rfl, rfl⟩
        clear P
        go_wp2_with fail
        go_ret2
        exact ⟨by rw [HRV.out]; rfl, HCH.out⟩
end Go.Proofs.YtlhhcocdhkbdnaaDoor.Kp

set_option linter.unusedVariables false
set_option linter.unusedSimpArgs false
set_option maxRecDepth 100000
namespace Go.Proofs.YtlhhcocdhkbdnaaDoor.Kp
open Go.RowKit Go.Proofs.YtlhhcocdhkbdnaaDoor.Wd Go.Proofs.YtlhhcocdhkbdnaaDoor.Hp Go.Proofs.YtlhhcocdhkbdnaaDoor.Gp Go.Proofs.YtlhhcocdhkbdnaaDoor.Sm Go.Proofs.YtlhhcocdhkbdnaaDoor.Gr Go.Proofs.YtlhhcocdhkbdnaaDoor.Bp Go.Proofs.YtlhhcocdhkbdnaaDoor.Own
theorem shade_next (v : Vw) (S : List Nat) (j : Nat) (hj : j < S.length) : shadeV v (S.take (j + 1)) = { shadeV v (S.take j) with cells := (shadeV v (S.take j)).cells.set (S.getD j 0) { cel (shadeV v (S.take j)) (S.getD j 0) with c := 1 }, grey := (shadeV v (S.take j)).grey ++ [((S.getD j 0 : Nat) : Int)] } := by
  rw [take_snoc' S j 0 hj]
  unfold shadeV
  simp only [List.map_append, List.map_cons, List.map_nil, List.append_assoc]
  congr 1
  unfold grayC
  rw [List.foldl_append]
  rfl
theorem ints_snoc' (l : List Int) (x : Int) : ints .i64 (l ++ [x]) = ints .i64 l ++ [.int .i64 x] := by simp [ints]
theorem shade_nil (v : Vw) : shadeV v [] = v := by simp [shadeV, grayC]
set_option maxHeartbeats 8000000 in
theorem shade_any {w0 w : World} {O : Nat → Nat} {wp : Nat} {a : VA} {v : Vw} (h : WM w0 w O wp a v) (hnc : v.cells.length ≤ 60) (hng : v.grey.length ≤ 60) {S : List Nat} (hs : SOk v S) (hsl : S.length ≤ 60) {ao : Option Addr} {n cap : Nat} {qs : List Nat} (hn : S.length = n) (hr : Row w 3 1 (.slice ao n cap) qs n (nv S)) (hq0 : ∀ x ∈ qs, O x = 0 ∧ x < w.heap.size) :
    Calls Tryd.prog 99 #[.pointer (some ⟨wp, 0, none⟩), .slice ao n cap] w fun e w' => e = .returned (.bool true) ∧ MW w0 w O w' wp a (shadeV v S) := by
  have HW := Lib.hid h
  have HS := Lib.hid hs
  have HN := Lib.hid hn
  have HR := Lib.hid hr
  have HQ0 := Lib.hid hq0
  obtain ⟨i0, hi, he⟩ := Option.map_eq_some_iff.1 Gr.infoInt
  simp only [Prod.mk.injEq] at he
  obtain ⟨hz0, hz1, hz2⟩ := he
  have HNG := Lib.hid hng
  have HNC := Lib.hid hnc
  have hn60 : n ≤ 60 := by omega
  clear h hs hn hr hq0 hng hnc hsl
  go_enter Tryd.func99, Tryd.ntmps99
  go_wp2_with fail
  go_loopw [5] (fun i wr => ∃ (j : Nat) (O' : Nat → Nat) (a' : VA), i = .int .i64 j ∧ j ≤ n ∧ WM w0 wr O' wp a' (shadeV v (S.take j)) ∧ SmA a a' ∧ Row wr 3 1 (.slice ao n cap) qs n (nv S) ∧ (∀ x ∈ qs, O' x = 0 ∧ x < wr.heap.size) ∧ Un w O wr O') (fun i _ => n - (intOf i).toNat)
  case atStart => exact ⟨0, O, a, rfl, by omega, by rw [List.take_zero, shade_nil]; exact HW.out, SmA.refl a, HR.out, HQ0.out, Un.refl _ _⟩
  case round =>
    obtain ⟨j, O2, a2, rfl, hj, hw, hal, hrr, hqq, hun⟩ := hrel
    clear HW HR HQ0
    have HWM := Lib.hid hw
    have HA := Lib.hid hal
    have HRR := Lib.hid hrr
    have HQQ := Lib.hid hqq
    have HUN := Lib.hid hun
    clear hun
    by_cases hlt : j < n
    · have ltJ : (j : Int) < n := by omega
      have hjs : j < S.length := by rw [HN.out]; exact hlt
      obtain ⟨ao1, cap1, ev, _, _, hrd⟩ := hrr.rd
      simp only [Value.slice.injEq, true_and] at ev
      obtain ⟨rfl, rfl⟩ := ev
      obtain ⟨sb, so, rfl, hjj⟩ := hrd.2.resolve_left (by omega)
      have a1 : wr.cell? ⟨sb, so + j, none⟩ = some (.int .i64 ((S.getD j 0 : Nat) : Int)) := by
        rw [hjj j (by omega)]; simp [nv, List.getD_eq_getElem?_getD, hjs]
      have hmem : S.getD j 0 ∈ S := getD_memD 0 hjs
      have hwc := HS.out.w _ hmem
      have hnot : S.getD j 0 ∉ S.take j := fun hm => by
        obtain ⟨i, hi1, hi2⟩ := List.getElem_of_mem hm
        rw [List.length_take] at hi1
        rw [List.getElem_take] at hi2
        exact List.pairwise_iff_getElem.1 HS.out.nd i j (by omega) hjs (by omega) (by rw [hi2]; simp [List.getD_eq_getElem?_getD, hjs])
      have hst : SOk v (S.take j) := ⟨fun c hc => HS.out.w c (List.mem_of_mem_take hc), HS.out.nd.sublist (List.take_sublist _ _)⟩
      have hce : cel (shadeV v (S.take j)) (S.getD j 0) = cel v (S.getD j 0) := by rw [hst.at, if_neg hnot]
      have hlen : (shadeV v (S.take j)).cells.length = v.cells.length := gray_len _ _
      have hcl : S.getD j 0 < (shadeV v (S.take j)).cells.length := by rw [hlen]; exact wh_lt hwc
      have hgl : (shadeV v (S.take j)).grey.length ≤ 120 := by
        show (v.grey ++ (S.take j).map Int.ofNat).length ≤ 120
        have := HNG.out
        simp only [List.length_append, List.length_map, List.length_take]; omega
      obtain ⟨qc, oc, hac, hcell, hfr, hset⟩ := hw.cell hcl
      have c0 : wr.cell? ⟨wp, 0, none⟩ = some (.slice a2.ac (shadeV v (S.take j)).cells.length a2.cc) := hw.wpc 0
      rw [hac] at c0
      have c1 : wr.cell? ⟨qc, oc + S.getD j 0 * 4, none⟩ = some (.int .u8 (cel (shadeV v (S.take j)) (S.getD j 0)).k) := hcell _ 0 hcl (by omega)
      have c2 : wr.cell? ⟨qc, oc + S.getD j 0 * 4 + 1, none⟩ = some (.int .u8 (cel (shadeV v (S.take j)) (S.getD j 0)).c) := hcell _ 1 hcl (by omega)
      have f2 : wr.frozen? ⟨qc, oc + S.getD j 0 * 4 + 1, none⟩ = false := hfr (S.getD j 0 * 4 + 1)
      rw [hce] at c1 c2
      unfold wh whiteC at hwc
      simp only [Bool.and_eq_true, beq_iff_eq] at hwc
      rw [hwc.2] at c2
      have hk0 : ((cel v (S.getD j 0)).k == 0) = false := by have := hwc.1; simpa using this
      have W1 := Lib.hid (hset 1 (.int .u8 1) { cel (shadeV v (S.take j)) (S.getD j 0) with c := 1 } (by omega) rfl)
      have NX := Lib.hid (shade_next v S j hjs)
      have C1 : Hid (Ch [qc] wr (wr.setCell ⟨qc, oc + (S.getD j 0 * 4 + 1), none⟩ (.int .u8 1))) := Lib.hid ((Ch.refl _ _).setCell _ _ (.inl (by simp)))
      have HQC : Hid (O2 qc = 2) := Lib.hid (by
        obtain ⟨q9, o9, g1, g2, _⟩ := hw.cs.at_ (by omega)
        rw [hac] at g1
        simp only [Option.some.injEq, Addr.mk.injEq, and_true] at g1
        obtain ⟨rfl, rfl⟩ := g1
        exact g2)
      have ltC : ((S.getD j 0 : Nat) : Int) < (shadeV v (S.take j)).cells.length := by omega
      clear hw hal hrr hqq hrd hjj hmem hwc hnot hst hce hcell hfr hset hac hcl hjs
      generalize cel (shadeV v (S.take j)) (S.getD j 0) = cx at *
      generalize (cel v (S.getD j 0)).k = kd at *
      generalize S.getD j 0 = d at *
      generalize hV : shadeV v (S.take j) = V at *
      generalize hnV : V.cells.length = nV at *
      have ea : oc + (d * 4 + 1) = oc + d * 4 + 1 := by omega
      have W1' : Hid (WM w0 (wr.setCell ⟨qc, oc + d * 4 + 1, none⟩ (.int .u8 1)) O2 wp a2 { V with cells := V.cells.set d { cx with c := 1 } }) := Lib.hid (by rw [← ea]; exact W1.out)
      have C1' : Hid (Ch [qc] wr (wr.setCell ⟨qc, oc + d * 4 + 1, none⟩ (.int .u8 1))) := Lib.hid (by rw [← ea]; exact C1.out)
      have hd0 : (decide ((d : Int) < 0)) = false := by simp
      clear W1 C1 ea
      go_upto_region 8 with fail
      generalize wr.setCell ⟨qc, oc + d * 4 + 1, none⟩ (.int .u8 1) = w2 at *
      have c3 : w2.cell? ⟨wp, 3, none⟩ = some (.slice a2.ag V.grey.length a2.cg) := W1'.out.wpc 3
      obtain ⟨q3, hrow, hq3⟩ := W1'.out.gr
      have CA := Lib.hid ((Ch.refl [] w2).alloc (.cells #[.int .i64 (d : Int)] 3))
      have HR3 := Lib.hid (hrow.ch CA.out (by simp))
      have HQ3 := Lib.hid hq3
      have HN1 := Lib.hid (newL (w := w2) (b := w2.heap.size) rfl [.int .i64 (d : Int)] 3)
      have W2 := Lib.hid (W1'.out.chs CA.out)
      have KW3 : Hid (∀ W, Ch q3 (w2.alloc (.cells #[.int .i64 (d : Int)] 3)) W → W.cell? ⟨wp, 3, none⟩ = some (.slice a2.ag V.grey.length a2.cg) ∧ W.frozen? ⟨wp, 3, none⟩ = false) := Lib.hid (fun W hW => by
        have hh := hW.heap W2.out.hp (fun hm => by have := hq3 wp hm; have := W2.out.o1; omega)
        exact ⟨(cell_at hh).trans rfl, free_at hh⟩)
      clear hrow hq3 a1 c0 c1 c2 f2
      generalize hgn : V.grey.length = gn at *
      have HGN := Lib.hid hgn
      clear hgn
      go_wp2_with (at_builtin; go_loud (refine wpList_append_row _ rfl _ _ 50 rfl 3 i0 _ 1 8 Tryd.underlying50 hi hz0 hz1 hz2 rfl (by decide) rfl HR3.out ⟨w2.heap.size, 0, none⟩ 1 1 [.int .i64 (d : Int)] rfl rfl HN1.out (one1 _ _) (by unfold maxLen; omega) (by omega) ?_))
      intro v' w4 q4 hr4 hc4 hq4
      obtain ⟨ao4, cap4, rfl, _⟩ := hr4.rd
      obtain ⟨k3, f3⟩ := KW3.out w4 hc4
      have hsz : (w2.alloc (.cells #[.int .i64 (d : Int)] 3)).heap.size = w2.heap.size + 1 := World.size_alloc _ _
      have e5 : gn + 1 = (V.grey ++ [(d : Int)]).length := by simp [HGN.out]
      have hqq4 : ∀ x ∈ q4, O2 x = 3 ∨ ((w2.alloc (.cells #[.int .i64 (d : Int)] 3)).heap.size ≤ x ∧ x < w4.heap.size) := fun x hx => by
        rcases hq4 with e | ⟨q', e, h1, h2⟩
        · rw [e] at hx; exact .inl (HQ3.out x hx)
        · rw [e] at hx; simp at hx; subst hx; exact .inr ⟨by omega, h2⟩
      have HG4 := W2.out.greyS (ao := ao4) (cap := cap4) (q := q4) (g := V.grey ++ [(d : Int)]) (w1 := w4) (T := q3) (by rw [← e5, ints_snoc']; exact hr4) hc4 HQ3.out hqq4
      have HU4 : Hid (Un w O (w4.setCell ⟨wp, 3, none⟩ (.slice ao4 (gn + 1) cap4)) (put O2 3 q4)) := Lib.hid (((HUN.out.trans (Un.of C1'.out (fun y hy => by simp at hy; rw [hy, HQC.out]; omega) (fun _ _ h => h))).trans (Un.ch CA.out)).trans (Un.of ((hc4.mono (T := wp :: q3) (fun y hy => List.mem_cons_of_mem _ hy)).setCell _ _ (.inl (by simp))) (fun y hy => by
        rcases List.mem_cons.1 hy with e | hy
        · rw [e, W2.out.o1]; omega
        · rw [HQ3.out y hy]; omega) (put_un (by omega) hqq4)))
      rw [← e5] at HG4
      have Z1 := Lib.hid HG4
      have s1 := C1'.out.size
      have s4 := hc4.size
      have Z2 : Hid (∀ x ∈ qs, put O2 3 q4 x = 0 ∧ x < w4.heap.size) := Lib.hid (fun x hx => by
        obtain ⟨y1, y2⟩ := HQQ.out x hx
        refine ⟨?_, by omega⟩
        unfold put
        rw [if_neg, y1]
        intro hm
        rcases hq4 with e | ⟨q', e, h1, h2⟩
        · rw [e] at hm; have := HQ3.out x hm; omega
        · rw [e] at hm; simp at hm; omega)
      have Z3 : Hid (Row w4 3 1 (.slice (some ⟨sb, so, none⟩) n cap) qs n (nv S)) := Lib.hid (((HRR.out.ch C1'.out (fun x hx hm => by simp at hm; subst hm; have := (HQQ.out x hx).1; have := HQC.out; omega)).ch CA.out (by simp)).ch hc4 (fun x hx hm => by have := HQ3.out x hm; have := (HQQ.out x hx).1; omega))
      clear hr4 hc4 hq4 hqq4 HG4 c3 s1 s4 hsz e5
      go_wp2_with fail
      go_roundw
      case rel =>
        have hwpx : ∀ x ∈ qs, x ≠ wp := fun x hx e => by subst e; have := (HQQ.out x hx).1; have := W2.out.o1; omega
        refine ⟨j + 1, put O2 3 q4, { a2 with ag := ao4, cg := cap4 }, by go_num, by omega, by rw [NX.out]; exact Z1.out, HA.out.trans ⟨rfl, rfl, rfl, rfl, rfl⟩, Z3.out.ch ((Ch.refl [wp] w4).setCell _ _ (.inl (by simp))) (fun x hx => by simp; exact hwpx x hx), fun x hx => ?_, HU4.out⟩
        have := Z2.out x hx
        have hss : (w4.setCell ⟨wp, 3, none⟩ (.slice ao4 (gn + 1) cap4)).heap.size = w4.heap.size := by simp [World.setCell]
        exact ⟨this.1, by rw [hss]; exact this.2⟩
      case measure => simp [intOf]; omega
    · have ltJ : ¬ (j : Int) < n := by omega
      obtain rfl : n = j := by omega
      have e1 : S.take n = S := List.take_of_length_le (by rw [HN.out]; exact Nat.le_refl _)
      rw [e1] at HWM
      clear hw hal hrr hqq e1
      go_wp2_with fail
      go_ret
      exact ⟨rfl, O2, a2, HWM.out, HA.out, HUN.out⟩
theorem row_tight {w : World} {e : TypeId} {sz n : Nat} {qs : List Nat} {v : Value} {xs : List Value} (h : Row w e sz v qs n xs) : ∃ qs', Row w e sz v qs' n xs ∧ ∀ q ∈ qs', q ∈ qs ∧ q < w.heap.size := by
  obtain ⟨hl, ao, cap, hv, h1, h2, h3, h4⟩ := h
  rcases h4 with h4 | ⟨q, off, arr, hq, ha, hh, hr, hj⟩
  · exact ⟨[], ⟨hl, ao, cap, hv, h1, h2, h3, .inl h4⟩, by simp⟩
  · exact ⟨[q], ⟨hl, ao, cap, hv, h1, h2, h3, .inr ⟨q, off, arr, by simp, ha, hh, hr, hj⟩⟩, fun x hx => by simp at hx; subst hx; exact ⟨hq, lt_of hh⟩⟩
theorem storeL_len (p : Int) (s : Bool) (a b : Int) (h : List Cel) : (storeL p s a b h).length ≤ 2 := by
  unfold storeL
  split
  · split
    · have := shadeL_len h [a]; simp at this; omega
    · have := shadeL_len h [a, b]; simpa using this
  · simp
theorem fillL_len (p : Int) (s : Bool) (a b : Int) (h : List Cel) : (fillL p s a b h).length ≤ 2 := by
  unfold fillL
  split
  · have := shadeL_len h [a, b]; simpa using this
  · simp
/-- Behind a maker of one list: the view, and the list, which is nobody's. -/
theorem WM.made {w0 w w3 : World} {O : Nat → Nat} {wp : Nat} {a : VA} {v : Vw} (h : WM w0 w O wp a v) {xs : List Value} {n : Nat} {en : Ending} (hm : Mk1 3 xs n w en w3) : ∃ ao cap qs, en = .returned (.slice ao n cap) ∧ WM w0 w3 O wp a v ∧ Row w3 3 1 (.slice ao n cap) qs n xs ∧ ∀ x ∈ qs, O x = 0 ∧ x < w3.heap.size := by
  obtain ⟨v2, qs, rfl, h1, h2, h3⟩ := hm
  obtain ⟨qs', g1, g2⟩ := row_tight h1
  obtain ⟨ao, cap, rfl, _⟩ := g1.rd
  exact ⟨ao, cap, qs', rfl, h.chs h2, g1, fun x hx => ⟨h.fresh (h3 x (g2 x hx).1), (g2 x hx).2⟩⟩
set_option maxHeartbeats 4000000 in
theorem words_any {w0 w : World} {O : Nat → Nat} {wp : Nat} {a : VA} {v : Vw} (h : WM w0 w O wp a v) (hin : ∀ x ∈ v.cells, InR x) (hnc : v.cells.length ≤ 60) (hng : v.grey.length ≤ 60) (x y : Int) (ux : Gp.u64 x) (uy : Gp.u64 y) (hb : Bnd w0) :
    Calls Tryd.prog 95 #[.pointer (some ⟨wp, 0, none⟩), .int .u64 x, .int .u64 y] w fun e w' => e = .returned (.bool true) ∧ MW w0 w O w' wp a (shadeV v (storeL v.ph false x y v.cells)) := by
  have c0 : w.cell? ⟨wp, 0, none⟩ = some (.slice a.ac v.cells.length a.cc) := h.wpc 0
  have c1 : w.cell? ⟨wp, 1, none⟩ = some (.int .u8 v.ph) := h.wpc 1
  have HD := Lib.hid (h.chs ((Ch.refl [] w).drew))
  have HUD : Hid (Un w O w.drew O) := Lib.hid (Un.ch ((Ch.refl [] w).drew))
  have ST := Store_any w.drew a.ac a.cc v.cells v.ph false x y (by omega) HD.out.vm.cells hin ux uy (Bnd.ch hb HD.out.g.ch (by simp))
  have HS := Lib.hid (store_sok v false x y)
  have hsl := storeL_len v.ph false x y v.cells
  have HNC := Lib.hid hnc
  have HNG := Lib.hid hng
  clear h hin hnc hng hb
  generalize hS : storeL v.ph false x y v.cells = S at *
  generalize hn : v.cells.length = n at *
  go_enter Tryd.func95, Tryd.ntmps95
  go_wp2_with fail
  go_still_tail 12, (by kernel_rfl)
  change wpList _ _ _ _ _ w.drew
  clear c0 c1
  generalize w.drew = wd at *
  go_wp2_with fail
  refine ST.mono ?_
  intro e w3 hm
  have HU3 : Hid (Un w O w3 O) := Lib.hid (HUD.out.trans (Un.ch (by obtain ⟨_, _, _, _, k, _⟩ := hm; exact k)))
  obtain ⟨ao, cap, qs, rfl, g1, g2, g3⟩ := HD.out.made hm
  have SH := shade_any g1 (by rw [hn]; exact HNC.out) HNG.out HS.out (by omega) rfl g2 g3
  clear ST hm g1 g2 g3
  generalize S.length = ns at *
  go_wp2_with fail
  refine SH.mono ?_
  rintro e w4 ⟨rfl, O4, a4, g4, g5, g6⟩
  clear SH
  go_wp2_with fail
  go_ret
  exact ⟨rfl, O4, a4, g4, g5, HU3.out.trans g6⟩
end Go.Proofs.YtlhhcocdhkbdnaaDoor.Kp
