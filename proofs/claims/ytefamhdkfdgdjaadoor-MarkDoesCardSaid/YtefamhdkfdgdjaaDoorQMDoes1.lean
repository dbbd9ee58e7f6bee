/-
  THE WALK of MarkDoes' steps: Shade.
-/
import Derived.Test.YtefamhdkfdgdjaaDoorQMDoesP
set_option linter.unusedVariables false
set_option linter.unusedSimpArgs false
set_option maxRecDepth 100000
namespace Go.Proofs.YtefamhdkfdgdjaaDoor.L15
open Go.RowKit Go.Proofs.YtefamhdkfdgdjaaDoor.Wd Go.Proofs.YtefamhdkfdgdjaaDoor.Hp Go.Proofs.YtefamhdkfdgdjaaDoor.Cp Go.Proofs.YtefamhdkfdgdjaaDoor.Cl Go.Proofs.YtefamhdkfdgdjaaDoor.Mk Go.Proofs.YtefamhdkfdgdjaaDoor.R03 Go.Proofs.YtefamhdkfdgdjaaDoor.R15 Go.Proofs.YtefamhdkfdgdjaaDoor.Sm Go.Proofs.YtefamhdkfdgdjaaDoor.Own Go.Proofs.YtefamhdkfdgdjaaDoor.Gr
set_option maxHeartbeats 8000000 in
theorem step1 {w0 w : World} {O : Nat → Nat} {bp ni mp p s : Nat} {F rq : List Nat} {l : List Cel} {row : List Int} {qp rp rb : Nat} {rq2 : List Nat} (h : DS w0 w O bp ni mp p s F rq l row qp rp rb rq2 l row)
    {aw ac : Option Addr} {nw cw nc cc : Nat} {ws cs : List Int} {ce cC cD ow : Int} (ho : OpI w0 aw nw cw ws ac nc cc cs cC cD ow) (hb0 : Bnd w0) (hrl : row.length ≤ 100000) (hni : ni ≤ 500000) :
    Calls Tryd.prog 9 #[.pointer (some ⟨mp, 0, none⟩), .pointer (some ⟨p, 0, none⟩), .pointer (some ⟨qp, 0, none⟩), .agg (opA 1 aw nw cw ac nc cc ce cC cD ow), .pointer (some ⟨bp, 0, none⟩)] w fun e w' => e = .returned (.bool true) ∧ SP w0 bp ni mp p s qp rp rb row (1 + nw + nc) w' := by
  obtain ⟨W, hW⟩ : ∃ W, W = w.alloc (.cells (opA 1 aw nw cw ac nc cc ce cC cD ow) 31) := ⟨_, rfl⟩
  have hal : Ch [] w W := by rw [hW]; exact (Ch.refl _ _).alloc _
  have hwl : ws.length = nw := by simpa [ints] using ho.hw.1
  have D1 := Lib.hid (h.chs hal)
  have HO := Lib.hid ho
  have HB := Lib.hid hb0
  have HWL := Lib.hid hwl
  obtain ⟨bo, hbo⟩ : ∃ bo, bo = w.heap.size := ⟨_, rfl⟩
  have HZ0 : Hid (O bo = 0) := Lib.hid (by rw [hbo]; exact h.fresh (Nat.le_refl _))
  have HBZ : Hid (W.heap[bo]? = some (.cells (opA 1 aw nw cw ac nc cc ce cC cD ow) 31 (0, 0))) := Lib.hid (by rw [hbo, hW]; exact heap_new w _)
  have HLT : Hid (bo < W.heap.size) := Lib.hid (by rw [hbo, hW, World.size_alloc]; omega)
  have HK : Hid (∀ V : World, V.heap[bo]? = some (.cells (opA 1 aw nw cw ac nc cc ce cC cD ow) 31 (0, 0)) → V.cell? ⟨bo, 1, none⟩ = some (.slice aw nw cw)) := Lib.hid (fun V hV => by rw [cell_at hV]; rfl)
  have HRW : Hid (∀ V, Ch [] w0 V → Hp.Rd V aw nw (ints .u64 ws)) := Lib.hid (fun V hV => ho.hw.ch hV)
  have LW := LentWords_any W aw nw cw ws (by have := ho.hn.1; omega) (rdF_of (HRW.out W D1.out.g.ch))
  have HBO := Lib.hid hbo
  have hn1 := ho.hn.1
  unfold opA
  unfold opA at hW
  clear h ho hb0 hwl hal hbo
  go_enter Tryd.func9, Tryd.ntmps9
  go_wp2_with fail
  rw [← hW, ← HBO.out]
  clear hW
  refine LW.mono ?_
  rintro e w2 ⟨q, rfl, b1, b2, b3⟩
  have D2 := Lib.hid (D1.out.lent ⟨b3, lt_of b1⟩ b2)
  have HL2 : Hid (LentWs w2 q ws) := Lib.hid b1
  have HB2 := Lib.hid (b2.heap HBZ.out (by simp))
  have HZ2 : Hid (put O 3 [q] bo = 0) := Lib.hid (by unfold put; rw [if_neg (by simp; have := HLT.out; omega)]; exact HZ0.out)
  clear LW b1 b2 b3 HZ0 HBZ
  generalize put O 3 [q] = O2 at *
  have SH := Mk.Shade_any w2 mp p s F l row rq (some ⟨q, 0, none⟩) nw (nw + 2) ws D2.out.1.mm (rdT_at (by have := HL2.out.rd; rwa [HWL.out] at this) (fun hm => by have := D2.out.1.t1 q hm; have := D2.out.2; omega)) (by omega) HO.out.hwu (D2.out.1.bnd HB.out).1 (un (D2.out.1.bnd HB.out).2 (fun y hy => by rw [D2.out.1.t1 y hy]; omega))
  go_wp2_with fail
  refine SH.mono ?_
  rintro e w3 ⟨v3, qs3, F3, rq3, rfl, c1, c2, c3, c4, c5, c6⟩
  have D3 := Lib.hid (D2.out.1.mark c2 c3 c4 c5)
  have hT3 : ∀ y ∈ mp :: s :: rq, O2 y ≠ 0 := fun y hy => by rw [D2.out.1.t1 y hy]; omega
  have HL3 : Hid (LentWs w3 q ws) := Lib.hid (c3.heap HL2.out (fun hm => by have := D2.out.1.t1 q hm; have := D2.out.2; omega))
  have HB3 := Lib.hid (c3.heap HB2.out (un HZ2.out hT3))
  have HQ3 : Hid (∀ y ∈ qs3, put O2 1 (F3 ++ rq3) y = 0 ∧ w2.heap.size ≤ y ∧ y < w3.heap.size) := Lib.hid (fun y hy => by
    obtain ⟨z1, z2, z3, z4, z5⟩ := c6 y hy
    exact ⟨by rw [D3.out.2.2 y z3 z4]; exact D2.out.1.fresh z1, z1, z2⟩)
  have HZ3 : Hid (put O2 1 (F3 ++ rq3) bo = 0 ∧ put O2 1 (F3 ++ rq3) q = 3) := Lib.hid (by
    have e3 := D3.out.2.1 q (by rw [D2.out.2]; omega)
    refine ⟨?_, by rw [e3]; exact D2.out.2⟩
    unfold put
    have hlt := D2.out.1.g.ch.size
    have hb2 := lt_of HB2.out
    rw [if_neg, HZ2.out]
    intro hm
    have : O2 bo = 1 ∨ w2.heap.size ≤ bo := by
      rcases List.mem_append.1 hm with hm | hm
      · exact (c4 bo hm).imp (fun e => D2.out.1.o1 bo (by simp [e])) id
      · exact (c5 bo hm).imp (fun e => D2.out.1.o1 bo (by simp [e])) id
    have := HZ2.out
    omega)
  have HR3 := Lib.hid c1
  obtain ⟨a3, k3, rfl, _⟩ := c1.rd
  have hsl := shS_len l ws
  rw [HWL.out] at hsl
  clear SH c1 c2 c3 c4 c5 c6 hT3 HZ2 HL2 HB2
  generalize put O2 1 (F3 ++ rq3) = O3 at *
  have RS := R15.Shade_any w3 qp rp rb l row rq2 aw nw cw ws D3.out.1.rk (HRW.out w3 D3.out.1.g.ch) (by omega) HO.out.hwu
  have kop := HK.out w3 HB3.out
  generalize hno : (shS l ws).2.length = no at *
  have HNO := Lib.hid hno
  clear hno
  go_wp2_with fail
  refine RS.mono ?_
  rintro e w4 ⟨v4, qs4, rq4, rfl, d1, d2, d3, d4, d5⟩
  have D4 := Lib.hid (D3.out.1.ref d2 d3 d4)
  have hT4 : ∀ y ∈ qp :: rb :: rq2, O3 y ≠ 0 := fun y hy => by rw [D3.out.1.t2 y hy]; omega
  have HL4 : Hid (LentWs w4 q ws) := Lib.hid (d3.heap HL3.out (fun hm => by have := D3.out.1.t2 q hm; have := HZ3.out.2; omega))
  have HB4 := Lib.hid (d3.heap HB3.out (un HZ3.out.1 hT4))
  have hun : ∀ y, O3 y = 0 → y < w3.heap.size → put O3 2 rq4 y = 0 := fun y h0 hl => by
    unfold put
    rw [if_neg, h0]
    intro hm
    rcases d4 y hm with e | e
    · have := D3.out.1.o2 y (by simp [e]); omega
    · omega
  have HQ3' : Hid (∀ y ∈ qs3, put O3 2 rq4 y = 0 ∧ w2.heap.size ≤ y ∧ y < w4.heap.size ∧ y < w3.heap.size) := Lib.hid (fun y hy => by
    obtain ⟨z1, z2, z3⟩ := HQ3.out y hy
    have := d3.size
    exact ⟨hun y z1 z3, z2, by omega, z3⟩)
  have HQ4 : Hid (∀ y ∈ qs4, put O3 2 rq4 y = 0 ∧ w3.heap.size ≤ y ∧ y < w4.heap.size) := Lib.hid (fun y hy => by
    obtain ⟨z1, z2, z3⟩ := d5 y hy
    exact ⟨by rw [D4.out.2.2 y z3]; exact D3.out.1.fresh z1, z1, z2⟩)
  have HZ4 : Hid (put O3 2 rq4 bo = 0 ∧ put O3 2 rq4 q = 3) := Lib.hid ⟨hun bo HZ3.out.1 (lt_of HB3.out), by rw [D4.out.2.1 q (by rw [HZ3.out.2]; omega)]; exact HZ3.out.2⟩
  have HR34 := Lib.hid (HR3.out.ch d3 (fun y hy => un (HQ3.out y hy).1 hT4))
  have HR4 := Lib.hid d1
  obtain ⟨a4, k4, rfl, _⟩ := d1.rd
  rw [HNO.out] at HR4 ⊢
  have hw2 : w0.heap.size ≤ w2.heap.size := D2.out.1.g.ch.size
  have BI := Ints_bk D4.out.1.g D4.out.1.bk HR34.out (fun y hy => ⟨(HQ3'.out y hy).1, by have := (HQ3'.out y hy).2.1; omega, (HQ3'.out y hy).2.2.1⟩) (by omega) (by omega)
  clear RS kop d1 d2 d3 d4 d5 hT4 hun hw2 HB3
  generalize put O3 2 rq4 = O4 at *
  go_wp2_with fail
  refine BI.mono ?_
  rintro e w5 ⟨rfl, O5, T5, e1, e2, e3, e4, e5, e6⟩
  have D5 := Lib.hid (D4.out.1.keep e1 e2 e3 e4 (fun x hx => by rcases e5 x hx with e | e <;> omega))
  have hT5 : ∀ y ∈ T5, O4 y ≠ 0 := fun y hy => by rcases e5 y hy with e | e <;> omega
  have HL5 : Hid (LentWs w5 q ws) := Lib.hid (e4.heap HL4.out (fun hm => by have := e5 q hm; have := HZ4.out.2; omega))
  have HB5 := Lib.hid (e4.heap HB4.out (un HZ4.out.1 hT5))
  have HA5 := Lib.hid (HR34.out.ch e4 (fun y hy => un (HQ3'.out y hy).1 hT5))
  have HC5 := Lib.hid (HR4.out.ch e4 (fun y hy => un (HQ4.out y hy).1 hT5))
  have HO5 : Hid (∀ y, y ∈ qs3 ∨ y ∈ qs4 → O5 y ≠ 3) := Lib.hid (fun y hy => by
    rcases hy with hy | hy
    · have h1 := HQ3'.out y hy
      rcases (e6 y h1.2.2.1 h1.1).1 hy with e | e <;> omega
    · have h1 := HQ4.out y hy
      have := (e6 y h1.2.2 h1.1).2 (fun hm => by have := (HQ3'.out y hm).2.2.2; omega)
      omega)
  have HQ5 : Hid (O5 q = 3) := Lib.hid (by rw [e2 q (by rw [HZ4.out.2]; omega)]; exact HZ4.out.2)
  have kop := HK.out w5 HB5.out
  have WW := WholeWords_any w5 q aw nw cw ws (by omega) HO.out.hwc.1 HO.out.hwc.2 HWL.out HL5.out (HRW.out w5 D5.out.g.ch)
  clear BI e1 e2 e3 e4 e5 e6 hT5
  go_wp2_with fail
  refine WW.mono ?_
  rintro e w6 ⟨rfl, d, rfl⟩
  have hd : Ch [] w5 (w5.drewN d) := (Ch.refl [] w5).drewN d
  have SW := SpoilWords_any (w5.drewN d) q nw ws (by omega) HWL.out (hd.heap HL5.out (by simp))
  have D6 := Lib.hid (D5.out.chs hd)
  have HA6 := Lib.hid (HA5.out.ch hd (by simp))
  have HC6 := Lib.hid (HC5.out.ch hd (by simp))
  clear WW kop hd
  generalize w5.drewN d = w6 at *
  go_wp2_with fail
  refine SW.mono ?_
  rintro e w7 ⟨rfl, f1⟩
  have D7 := Lib.hid (D6.out.step f1 (fun x hx => .inl (by simp at hx; rw [hx]; exact HQ5.out)))
  have HA7 := HA6.out.ch f1 (fun y hy hm => by simp at hm; have := HO5.out y (.inl hy); rw [hm, HQ5.out] at this; omega)
  have HC7 := HC6.out.ch f1 (fun y hy hm => by simp at hm; have := HO5.out y (.inr hy); rw [hm, HQ5.out] at this; omega)
  obtain ⟨x3, y3, e3, i3, j3, r3⟩ := HA7.rd
  obtain ⟨x4, y4, e4, i4, j4, r4⟩ := HC7.rd
  simp only [Value.slice.injEq, true_and] at e3 e4
  obtain ⟨rfl, rfl⟩ := e3
  obtain ⟨rfl, rfl⟩ := e4
  have SI := SameInts_any w7 a3 a4 no k3 no k4 (shS l ws).2 (shS l ws).2 i3 j3 i4 j4 (by simpa using r3) (by simpa using r4)
  rw [decide_eq_true rfl] at SI
  clear SW f1 HA7 HC7 r3 r4 i3 i4 j3 j4
  go_wp2_with fail
  refine SI.mono ?_
  rintro e w8 ⟨rfl, d8, rfl⟩
  clear SI
  go_wp2_with fail
  go_ret
  refine ⟨rfl, O5, ni + 1, F3, rq3, _, _, rq4, D7.out.chs ((Ch.refl [] w7).drewN d8), by omega, ?_⟩
  rw [List.length_append, HNO.out]; omega
end Go.Proofs.YtefamhdkfdgdjaaDoor.L15
