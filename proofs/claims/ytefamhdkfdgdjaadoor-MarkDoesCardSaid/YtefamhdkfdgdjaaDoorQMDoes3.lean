/-
  THE WALK of MarkDoes' steps: Scan, Grey.
-/
import Derived.Test.YtefamhdkfdgdjaaDoorQMDoesP
set_option linter.unusedVariables false
set_option linter.unusedSimpArgs false
set_option maxRecDepth 100000
namespace Go.Proofs.YtefamhdkfdgdjaaDoor.L15
open Go.RowKit Go.Proofs.YtefamhdkfdgdjaaDoor.Wd Go.Proofs.YtefamhdkfdgdjaaDoor.Hp Go.Proofs.YtefamhdkfdgdjaaDoor.Cp Go.Proofs.YtefamhdkfdgdjaaDoor.Cl Go.Proofs.YtefamhdkfdgdjaaDoor.Mk Go.Proofs.YtefamhdkfdgdjaaDoor.R03 Go.Proofs.YtefamhdkfdgdjaaDoor.R15 Go.Proofs.YtefamhdkfdgdjaaDoor.Sm Go.Proofs.YtefamhdkfdgdjaaDoor.Own Go.Proofs.YtefamhdkfdgdjaaDoor.Gr
set_option maxHeartbeats 8000000 in
theorem step3_nil {w0 w : World} {O : Nat → Nat} {bp ni mp p s : Nat} {F rq : List Nat} {l : List Cel} {qp rp rb : Nat} {rq2 : List Nat} (h : DS w0 w O bp ni mp p s F rq l [] qp rp rb rq2 l [])
    {aw ac : Option Addr} {nw cw nc cc : Nat} {ws cs : List Int} {ce cC cD ow : Int} (ho : OpI w0 aw nw cw ws ac nc cc cs cC cD ow) (hb0 : Bnd w0) (hni : ni ≤ 500000) :
    Calls Tryd.prog 9 #[.pointer (some ⟨mp, 0, none⟩), .pointer (some ⟨p, 0, none⟩), .pointer (some ⟨qp, 0, none⟩), .agg (opA 3 aw nw cw ac nc cc ce cC cD ow), .pointer (some ⟨bp, 0, none⟩)] w fun e w' => e = .returned (.bool true) ∧ SP w0 bp ni mp p s qp rp rb [] (1 + nw + nc) w' := by
  obtain ⟨W, hW⟩ : ∃ W, W = w.alloc (.cells (opA 3 aw nw cw ac nc cc ce cC cD ow) 31) := ⟨_, rfl⟩
  have hal : Ch [] w W := by rw [hW]; exact (Ch.refl _ _).alloc _
  have D1 := Lib.hid (h.chs hal)
  have HO := Lib.hid ho
  have HB := Lib.hid hb0
  unfold opA
  unfold opA at hW
  clear h ho hal
  have SN := Mk.ScanNil_any W mp p s F l rq D1.out.mm
  have RN := R15.ScanNil_any W qp rp rb l rq2 D1.out.rk
  have BI := Ints_bk D1.out.g D1.out.bk (Row.nil W 3 1 []) (fun y hy => by cases hy) (by omega) (by omega)
  go_enter Tryd.func9, Tryd.ntmps9
  go_wp2_with fail
  rw [← hW]
  clear hW
  refine SN.mono ?_
  rintro e w2 ⟨rfl, rfl⟩
  clear SN
  go_wp2_with fail
  refine RN.mono ?_
  rintro e w3 ⟨rfl, rfl⟩
  clear RN
  go_wp2_with fail
  refine BI.mono ?_
  rintro e w5 ⟨rfl, O5, T5, e1, e2, e3, e4, e5, e6⟩
  have D5 := Lib.hid (D1.out.keep e1 e2 e3 e4 (fun x hx => by rcases e5 x hx with e | e <;> omega))
  have SI := SameInts_any w5 none none 0 0 0 0 [] [] (by omega) (by unfold maxLen; omega) (by omega) (by unfold maxLen; omega) ⟨rfl, .inl rfl⟩ ⟨rfl, .inl rfl⟩
  rw [decide_eq_true rfl] at SI
  clear BI e1 e2 e3 e4 e5 e6
  go_wp2_with fail
  refine SI.mono ?_
  rintro e w8 ⟨rfl, d8, rfl⟩
  clear SI
  go_wp2_with fail
  go_ret
  exact ⟨rfl, O5, ni + 1, F, rq, _, _, rq2, D5.out.chs ((Ch.refl [] w5).drewN d8), by omega, by simp⟩
set_option maxHeartbeats 8000000 in
theorem step3_one {w0 w : World} {O : Nat → Nat} {bp ni mp p s : Nat} {F rq : List Nat} {l : List Cel} {c : Int} {row : List Int} {qp rp rb : Nat} {rq2 : List Nat} (h : DS w0 w O bp ni mp p s F rq l (c :: row) qp rp rb rq2 l (c :: row))
    {aw ac : Option Addr} {nw cw nc cc : Nat} {ws cs : List Int} {ce cC cD ow : Int} (ho : OpI w0 aw nw cw ws ac nc cc cs cC cD ow) (hb0 : Bnd w0) (hrl : row.length ≤ 100000) (hni : ni ≤ 500000) :
    Calls Tryd.prog 9 #[.pointer (some ⟨mp, 0, none⟩), .pointer (some ⟨p, 0, none⟩), .pointer (some ⟨qp, 0, none⟩), .agg (opA 3 aw nw cw ac nc cc ce cC cD ow), .pointer (some ⟨bp, 0, none⟩)] w fun e w' => e = .returned (.bool true) ∧ SP w0 bp ni mp p s qp rp rb (c :: row) (1 + nw + nc) w' := by
  obtain ⟨W, hW⟩ : ∃ W, W = w.alloc (.cells (opA 3 aw nw cw ac nc cc ce cC cD ow) 31) := ⟨_, rfl⟩
  have hal : Ch [] w W := by rw [hW]; exact (Ch.refl _ _).alloc _
  have D1 := Lib.hid (h.chs hal)
  have HO := Lib.hid ho
  have HB := Lib.hid hb0
  unfold opA
  unfold opA at hW
  clear h ho hal
  have HOK : Hid (∀ x ∈ l, OkC x) := Lib.hid D1.out.mm.is.ok
  have SN := Mk.Scan_any W mp p s F l c row rq D1.out.mm (by omega) (D1.out.bnd HB.out).1 (un (D1.out.bnd HB.out).2 (fun y hy => by rw [D1.out.t1 y hy]; omega))
  have hrl2 : row.length ≤ 100000 := by omega
  clear hrl
  go_enter Tryd.func9, Tryd.ntmps9
  go_wp2_with fail
  rw [← hW]
  clear hW
  refine SN.mono ?_
  rintro e w3 ⟨v3, qs3, F3, rq3, rfl, c1, c2, c3, c4, c5, c6⟩
  have D3 := Lib.hid (D1.out.mark c2 c3 c4 c5)
  have HQ3 : Hid (∀ y ∈ qs3, put O 1 (F3 ++ rq3) y = 0 ∧ W.heap.size ≤ y ∧ y < w3.heap.size) := Lib.hid (fun y hy => by
    obtain ⟨z1, z2, z3, z4, z5⟩ := c6 y hy
    exact ⟨by rw [D3.out.2.2 y z3 z4]; exact D1.out.fresh z1, z1, z2⟩)
  have HR3 := Lib.hid c1
  obtain ⟨a3, k3, rfl, _⟩ := c1.rd
  have hsl : (scanC l c).2.length ≤ 2 := by
    unfold scanC
    simp only
    split
    · exact shS_len _ _
    · simp
  have RS := R15.Scan_any w3 qp rp rb l c row rq2 D3.out.1.rk HOK.out (by omega)
  clear SN c1 c2 c3 c4 c5 c6
  generalize put O 1 (F3 ++ rq3) = O3 at *
  generalize hno : (scanC l c).2.length = no at *
  have HNO := Lib.hid hno
  clear hno
  go_wp2_with fail
  refine RS.mono ?_
  rintro e w4 ⟨v4, qs4, rq4, rfl, d1, d2, d3, d4, d5⟩
  have D4 := Lib.hid (D3.out.1.ref d2 d3 d4)
  have hT4 : ∀ y ∈ qp :: rb :: rq2, O3 y ≠ 0 := fun y hy => by rw [D3.out.1.t2 y hy]; omega
  have hun : ∀ y, O3 y = 0 → y < w3.heap.size → put O3 2 rq4 y = 0 := fun y h0 hl => by
    unfold put
    rw [if_neg, h0]
    intro hm
    rcases d4 y hm with e | e
    · have := D3.out.1.o2 y (by simp [e]); omega
    · omega
  have HQ3' : Hid (∀ y ∈ qs3, put O3 2 rq4 y = 0 ∧ W.heap.size ≤ y ∧ y < w4.heap.size ∧ y < w3.heap.size) := Lib.hid (fun y hy => by
    obtain ⟨z1, z2, z3⟩ := HQ3.out y hy
    have := d3.size
    exact ⟨hun y z1 z3, z2, by omega, z3⟩)
  have HQ4 : Hid (∀ y ∈ qs4, put O3 2 rq4 y = 0 ∧ w3.heap.size ≤ y ∧ y < w4.heap.size) := Lib.hid (fun y hy => by
    obtain ⟨z1, z2, z3⟩ := d5 y hy
    exact ⟨by rw [D4.out.2.2 y z3]; exact D3.out.1.fresh z1, z1, z2⟩)
  have HR34 := Lib.hid (HR3.out.ch d3 (fun y hy => un (HQ3.out y hy).1 hT4))
  have HR4 := Lib.hid d1
  obtain ⟨a4, k4, rfl, _⟩ := d1.rd
  rw [HNO.out] at HR4 ⊢
  have hw2 : w0.heap.size ≤ W.heap.size := D1.out.g.ch.size
  have BI := Ints_bk D4.out.1.g D4.out.1.bk HR34.out (fun y hy => ⟨(HQ3'.out y hy).1, by have := (HQ3'.out y hy).2.1; omega, (HQ3'.out y hy).2.2.1⟩) (by omega) (by omega)
  clear RS d1 d2 d3 d4 d5 hT4 hun hw2
  generalize put O3 2 rq4 = O4 at *
  go_wp2_with fail
  refine BI.mono ?_
  rintro e w5 ⟨rfl, O5, T5, e1, e2, e3, e4, e5, e6⟩
  have D5 := Lib.hid (D4.out.1.keep e1 e2 e3 e4 (fun x hx => by rcases e5 x hx with e | e <;> omega))
  have hT5 : ∀ y ∈ T5, O4 y ≠ 0 := fun y hy => by rcases e5 y hy with e | e <;> omega
  have HA7 := HR34.out.ch e4 (fun y hy => un (HQ3'.out y hy).1 hT5)
  have HC7 := HR4.out.ch e4 (fun y hy => un (HQ4.out y hy).1 hT5)
  obtain ⟨x3, y3, e3, i3, j3, r3⟩ := HA7.rd
  obtain ⟨x4, y4, e4, i4, j4, r4⟩ := HC7.rd
  simp only [Value.slice.injEq, true_and] at e3 e4
  obtain ⟨rfl, rfl⟩ := e3
  obtain ⟨rfl, rfl⟩ := e4
  have SI := SameInts_any w5 a3 a4 no k3 no k4 (scanC l c).2 (scanC l c).2 i3 j3 i4 j4 (by simpa using r3) (by simpa using r4)
  rw [decide_eq_true rfl] at SI
  clear BI e1 e2 e3 e4 e5 e6 hT5 HA7 HC7 r3 r4 i3 i4 j3 j4
  go_wp2_with fail
  refine SI.mono ?_
  rintro e w8 ⟨rfl, d8, rfl⟩
  clear SI
  go_wp2_with fail
  go_ret
  refine ⟨rfl, O5, ni + 1, F3, rq3, _, _, rq4, D5.out.chs ((Ch.refl [] w5).drewN d8), by omega, ?_⟩
  rw [List.length_append, List.length_cons, HNO.out]; omega
set_option maxHeartbeats 8000000 in
theorem step4 {w0 w : World} {O : Nat → Nat} {bp ni mp p s : Nat} {F rq : List Nat} {l : List Cel} {row : List Int} {qp rp rb : Nat} {rq2 : List Nat} (h : DS w0 w O bp ni mp p s F rq l row qp rp rb rq2 l row)
    {aw ac : Option Addr} {nw cw nc cc : Nat} {ws cs : List Int} {ce cC cD ow : Int} (ho : OpI w0 aw nw cw ws ac nc cc cs cC cD ow) (hb0 : Bnd w0) (hrl : row.length ≤ 100000) (hni : ni ≤ 500000) :
    Calls Tryd.prog 9 #[.pointer (some ⟨mp, 0, none⟩), .pointer (some ⟨p, 0, none⟩), .pointer (some ⟨qp, 0, none⟩), .agg (opA 4 aw nw cw ac nc cc ce cC cD ow), .pointer (some ⟨bp, 0, none⟩)] w fun e w' => e = .returned (.bool true) ∧ SP w0 bp ni mp p s qp rp rb row (1 + nw + nc) w' := by
  obtain ⟨W, hW⟩ : ∃ W, W = w.alloc (.cells (opA 4 aw nw cw ac nc cc ce cC cD ow) 31) := ⟨_, rfl⟩
  have hal : Ch [] w W := by rw [hW]; exact (Ch.refl _ _).alloc _
  have D1 := Lib.hid (h.chs hal)
  have HO := Lib.hid ho
  have HB := Lib.hid hb0
  unfold opA
  unfold opA at hW
  clear h ho hal
  have GA := Grey_any W mp p s F l row rq D1.out.mm (by omega)
  unfold MkI at GA
  have HRL := Lib.hid hrl
  go_enter Tryd.func9, Tryd.ntmps9
  go_wp2_with fail
  rw [← hW]
  clear hW
  refine GA.mono ?_
  rintro e w2 ⟨va, qa, rfl, a1, a2, a3⟩
  have D2 := Lib.hid (D1.out.chs a2)
  have HA := Lib.hid a1
  have HQA : Hid (∀ q ∈ qa, W.heap.size ≤ q ∧ q < w2.heap.size) := Lib.hid a3
  have HWW : Hid (w0.heap.size ≤ W.heap.size) := Lib.hid D1.out.g.ch.size
  obtain ⟨aa, ka, rfl, _⟩ := a1.rd
  have GB := Grey_any w2 mp p s F l row rq D2.out.mm (by omega)
  unfold MkI at GB
  have HOA : Hid (∀ q ∈ qa, O q = 0) := Lib.hid (fun q hq => D1.out.fresh (a3 q hq).1)
  clear GA a1 a2 a3
  generalize hno : row.length = no at *
  have HNO := Lib.hid hno
  clear hno
  go_wp2_with fail
  refine GB.mono ?_
  rintro e w3 ⟨vb, qb, rfl, b1, b2, b3⟩
  have D3 := Lib.hid (D2.out.chs b2)
  have HA3 := Lib.hid (HA.out.ch b2 (by simp))
  have HBR := Lib.hid b1
  have HQB : Hid (∀ q ∈ qb, w2.heap.size ≤ q ∧ q < w3.heap.size) := Lib.hid b3
  have HOB : Hid (∀ q ∈ qb, O q = 0) := Lib.hid (fun q hq => D2.out.fresh (b3 q hq).1)
  have HS3 : Hid (w2.heap.size ≤ w3.heap.size) := Lib.hid b2.size
  obtain ⟨ab, kb, rfl, _⟩ := b1.rd
  have BI := Ints_bk D3.out.g D3.out.bk HA3.out (fun y hy => ⟨HOA.out y hy, by have := (HQA.out y hy).1; have := HWW.out; omega, by have := (HQA.out y hy).2; have := HS3.out; omega⟩) (by omega) (by omega)
  clear GB b1 b2 b3
  go_wp2_with fail
  refine BI.mono ?_
  rintro e w5 ⟨rfl, O5, T5, e1, e2, e3, e4, e5, e6⟩
  have D5 := Lib.hid (D3.out.keep e1 e2 e3 e4 (fun x hx => by rcases e5 x hx with e | e <;> omega))
  have hT5 : ∀ y ∈ T5, O y ≠ 0 := fun y hy => by rcases e5 y hy with e | e <;> omega
  have HA5 := Lib.hid (HA3.out.ch e4 (fun y hy => un (HOA.out y hy) hT5))
  have HB5 := Lib.hid (HBR.out.ch e4 (fun y hy => un (HOB.out y hy) hT5))
  have HOA5 : Hid (∀ q ∈ qa, O5 q = 0 ∨ O5 q = 7) := Lib.hid (fun q hq => (e6 q (by have := (HQA.out q hq).2; have := HS3.out; omega) (HOA.out q hq)).1 hq)
  have HOB5 : Hid (∀ q ∈ qb, O5 q = 0) := Lib.hid (fun q hq => (e6 q (HQB.out q hq).2 (HOB.out q hq)).2 (fun hm => by have := (HQA.out q hm).2; have := (HQB.out q hq).1; omega))
  have HS5 : Hid (w3.heap.size ≤ w5.heap.size) := Lib.hid e4.size
  have BJ := Ints_bk D5.out.g D5.out.bk HB5.out (fun y hy => ⟨HOB5.out y hy, by have := (HQB.out y hy).1; have := HWW.out; have := D1.out.g.ch.size; have := D2.out.g.ch.size; omega, by have := (HQB.out y hy).2; have := HS5.out; omega⟩) (by omega) (by omega)
  clear BI e1 e2 e3 e4 e5 e6 hT5
  go_wp2_with fail
  refine BJ.mono ?_
  rintro e w6 ⟨rfl, O6, T6, e1, e2, e3, e4, e5, e6⟩
  have D6 := Lib.hid (D5.out.keep e1 e2 e3 e4 (fun x hx => by rcases e5 x hx with e | e <;> omega))
  have HA6 := HA5.out.ch e4 (fun y hy hm => by rcases HOA5.out y hy with h1 | h1 <;> rcases e5 y hm with h2 | h2 <;> omega)
  have HC6 := HB5.out.ch e4 (fun y hy hm => by have h1 := HOB5.out y hy; rcases e5 y hm with h2 | h2 <;> omega)
  obtain ⟨x3, y3, e3', i3, j3, r3⟩ := HA6.rd
  obtain ⟨x4, y4, e4', i4, j4, r4⟩ := HC6.rd
  simp only [Value.slice.injEq, true_and] at e3' e4'
  obtain ⟨rfl, rfl⟩ := e3'
  obtain ⟨rfl, rfl⟩ := e4'
  obtain ⟨vg, g1, g2⟩ := D6.out.rk.hm
  obtain ⟨ag, kg, rfl, i5, j5, r5⟩ := g2.rd
  have m1 := cell_at (i := 1) g1
  simp only [List.getElem?_toArray, List.getElem?_cons_zero, List.getElem?_cons_succ] at m1
  rw [HNO.out] at m1 i5 r5
  have HM1 : Hid (∀ d, (w6.drewN d).cell? ⟨qp, 1, none⟩ = some (.slice ag no kg)) := Lib.hid (fun d => m1)
  have SI := SameInts_any w6 aa ag no ka no kg row row i3 j3 i5 j5 (by simpa using r3) (by simpa using r5)
  have SJ := Lib.hid (fun d => SameInts_any (w6.drewN d) ab ag no kb no kg row row i4 j4 i5 j5 (by simpa using r4.ch ((Ch.refl [] w6).drewN d)) (by simpa using r5.ch ((Ch.refl [] w6).drewN d)))
  rw [decide_eq_true rfl] at SI SJ
  clear BJ e1 e2 e3 e4 e5 e6 g1 g2 HA6 HC6 r3 r4 r5 i3 j3 i4 j4 i5 j5
  go_wp2_with fail
  refine SI.mono ?_
  rintro e w8 ⟨rfl, d8, rfl⟩
  have SJ' := SJ.out d8
  have m2 := HM1.out d8
  have HD8 := Lib.hid ((Ch.refl [] w6).drewN d8)
  clear SI m1
  generalize w6.drewN d8 = w7 at *
  go_wp2_with fail
  refine SJ'.mono ?_
  rintro e w9 ⟨rfl, d9, rfl⟩
  clear SJ'
  go_wp2_with fail
  go_ret
  exact ⟨rfl, O6, ni + 1 + 1, F, rq, _, _, rq2, D6.out.chs (HD8.out.drewN d9), by omega, by omega⟩
end Go.Proofs.YtefamhdkfdgdjaaDoor.L15
