/-
  THE WALKS of dappleref15's marker: Lay.
-/
import Derived.Test.YtefamhdkfdgdjaaDoorQRef03b
import Derived.Test.YtefamhdkfdgdjaaDoorQMark4
import Derived.Test.YtefamhdkfdgdjaaDoorQJApp
import Derived.StillTailTactics
import Derived.BigRegion
set_option linter.unusedVariables false
set_option linter.unusedSimpArgs false
set_option maxRecDepth 100000
namespace Go.Proofs.YtefamhdkfdgdjaaDoor.R15
open Go.RowKit Go.Proofs.YtefamhdkfdgdjaaDoor.Wd Go.Proofs.YtefamhdkfdgdjaaDoor.Hp Go.Proofs.YtefamhdkfdgdjaaDoor.Sm Go.Proofs.YtefamhdkfdgdjaaDoor.Cp Go.Proofs.YtefamhdkfdgdjaaDoor.Cl Go.Proofs.YtefamhdkfdgdjaaDoor.Mk Go.Proofs.YtefamhdkfdgdjaaDoor.R03
/-- The document's marker in memory. -/
structure RK (w : World) (qp rp rb : Nat) (l : List Cel) (row : List Int) (rq : List Nat) : Prop where
  hm : ∃ v, w.heap[qp]? = some (.cells #[.pointer (some ⟨rp, 0, none⟩), v] 40 (0, 0)) ∧ Row w 3 1 v rq row.length (ints .i64 row)
  rh : RH w rp rb l
  ne : qp ≠ rp ∧ qp ≠ rb
  mr : ∀ q ∈ rq, q ≠ qp ∧ q ≠ rp ∧ q ≠ rb
  rf : ∀ q ∈ rq, q < w.heap.size
theorem RK.ch {w w' : World} {qp rp rb : Nat} {l : List Cel} {row : List Int} {rq T : List Nat} (h : RK w qp rp rb l row rq) (hc : Ch T w w') (h1 : qp ∉ T) (h2 : rp ∉ T) (h3 : rb ∉ T) (h4 : ∀ q ∈ rq, q ∉ T) : RK w' qp rp rb l row rq := by
  obtain ⟨v, g1, g2⟩ := h.hm
  exact ⟨⟨v, hc.heap g1 h1, g2.ch hc h4⟩, h.rh.ch hc h2 h3, h.ne, h.mr, fun q hq => Nat.lt_of_lt_of_le (h.rf q hq) hc.size⟩
theorem RK.ch0 {w w' : World} {qp rp rb : Nat} {l : List Cel} {row : List Int} {rq : List Nat} (h : RK w qp rp rb l row rq) (hc : Ch [] w w') : RK w' qp rp rb l row rq := h.ch hc (by simp) (by simp) (by simp) (by simp)
theorem RK.lts {w : World} {qp rp rb : Nat} {l : List Cel} {row : List Int} {rq : List Nat} (h : RK w qp rp rb l row rq) : qp < w.heap.size ∧ rp < w.heap.size ∧ rb < w.heap.size := by
  obtain ⟨v, g1, _⟩ := h.hm
  exact ⟨lt_of g1, lt_of h.rh.hd, lt_of h.rh.bd⟩
/-- The heap has changed, nothing else of the marker. -/
theorem RK.heap {w w' : World} {qp rp rb : Nat} {l l' : List Cel} {row : List Int} {rq : List Nat} (h : RK w qp rp rb l row rq) (h1 : RH w' rp rb l') (hc : Ch [rb] w w') : RK w' qp rp rb l' row rq := by
  obtain ⟨v, g1, g2⟩ := h.hm
  exact ⟨⟨v, hc.heap g1 (by simp; exact h.ne.2), g2.ch hc (fun q hq => by simp; exact (h.mr q hq).2.2)⟩, h1, h.ne, h.mr, fun q hq => Nat.lt_of_lt_of_le (h.rf q hq) hc.size⟩
/-- The list of grey cells has become another one. -/
theorem RK.row {w w1 : World} {qp rp rb : Nat} {l : List Cel} {row row' : List Int} {rq rq' : List Nat} {v' : Value} (h : RK w qp rp rb l row rq) (hr : Row w1 3 1 v' rq' row'.length (ints .i64 row')) (hc : Ch rq w w1) (hq : rq' = rq ∨ ∃ q', rq' = [q'] ∧ w.heap.size ≤ q' ∧ q' < w1.heap.size) :
    RK (w1.setCell ⟨qp, 1, none⟩ v') qp rp rb l row' rq' ∧ Ch (qp :: rq) w (w1.setCell ⟨qp, 1, none⟩ v') := by
  obtain ⟨v, g1, g2⟩ := h.hm
  obtain ⟨l1, l2, l3⟩ := h.lts
  have s1 := hc.size
  have k1 := hc.heap g1 (fun hm => (h.mr _ hm).1 rfl)
  have hset := heap_set (i := 1) k1 v'
  have C1 : Ch [qp] w1 (w1.setCell ⟨qp, 1, none⟩ v') := (Ch.refl _ _).setCell _ _ (.inl (by simp))
  have hrq : ∀ q ∈ rq', (q ≠ qp ∧ q ≠ rp ∧ q ≠ rb) ∧ q < w1.heap.size := fun q hm => by
    rcases hq with e | ⟨q', e, h1, h2⟩
    · rw [e] at hm; exact ⟨h.mr q hm, by have := h.rf q hm; omega⟩
    · rw [e] at hm; simp at hm; subst hm; exact ⟨⟨by omega, by omega, by omega⟩, h2⟩
  refine ⟨⟨⟨v', hset, hr.ch C1 (fun q hm => by simp; exact (hrq q hm).1.1)⟩, (h.rh.ch hc (fun hm => (h.mr _ hm).2.1 rfl) (fun hm => (h.mr _ hm).2.2 rfl)).ch C1 (by simp; exact Ne.symm h.ne.1) (by simp; exact Ne.symm h.ne.2), h.ne, fun q hm => (hrq q hm).1, fun q hm => by have := C1.size; have := (hrq q hm).2; omega⟩, (hc.mono (fun x hx => List.mem_cons_of_mem _ hx)).setCell _ _ (.inl (by simp))⟩
/-- What Lay answers. -/
def RPost (w : World) (qp rp rb : Nat) (rq : List Nat) (l' : List Cel) (row' : List Int) (out : List Int) (en : Ending) (w' : World) : Prop :=
  ∃ v qs rq', en = .returned v ∧ Row w' 3 1 v qs out.length (ints .i64 out) ∧ RK w' qp rp rb l' row' rq' ∧ Ch (qp :: rb :: rq) w w' ∧ (∀ q ∈ rq', q ∈ rq ∨ w.heap.size ≤ q) ∧ ∀ q ∈ qs, w.heap.size ≤ q ∧ q < w'.heap.size ∧ q ∉ rq'
set_option maxHeartbeats 8000000 in
theorem Lay_any (w : World) (qp rp rb : Nat) (l : List Cel) (row : List Int) (rq : List Nat) (ao : Option Addr) (n cap : Nat) (cs : List Int) (h : RK w qp rp rb l row rq) (hr : RdT w ao n (ints .i64 cs) (qp :: rb :: rq)) (hn : row.length + n ≤ 5000000) :
    Calls Tryd.prog 32 #[.pointer (some ⟨qp, 0, none⟩), .slice ao n cap] w (RPost w qp rp rb rq (layS l cs).1 (row ++ (layS l cs).2) (layS l cs).2) := by
  have hcl : cs.length = n := by simpa [ints] using hr.1
  obtain ⟨i0, hi, he⟩ := Option.map_eq_some_iff.1 infoInt
  simp only [Prod.mk.injEq] at he
  obtain ⟨hz0, hz1, hz2⟩ := he
  have HM := Lib.hid h
  have HRD := Lib.hid hr
  have HCL := Lib.hid hcl
  have HLE := Lib.hid (fun j => layS_len l (cs.take j))
  have HLT := Lib.hid h.lts
  obtain ⟨R, hR⟩ : ∃ R, R = RPost w qp rp rb rq (layS l cs).1 (row ++ (layS l cs).2) (layS l cs).2 := ⟨_, rfl⟩
  have HRR := Lib.hid hR
  rw [← hR]
  have hrl : row.length ≤ 5000000 := by omega
  clear h hr hcl hR
  go_enter Tryd.func32, Tryd.ntmps32
  go_wp2_with fail
  go_loopw [6, 5] (fun i o wr => ∃ (j : Nat) (rq' oq : List Nat), i = .int .i64 j ∧ j ≤ n ∧ RK wr qp rp rb (layS l (cs.take j)).1 (row ++ (layS l (cs.take j)).2) rq' ∧ Row wr 3 1 o oq (layS l (cs.take j)).2.length (ints .i64 (layS l (cs.take j)).2) ∧ Ch (qp :: rb :: rq) w wr ∧ (∀ q ∈ rq', q ∈ rq ∨ w.heap.size ≤ q) ∧ ∀ q ∈ oq, w.heap.size ≤ q ∧ q < wr.heap.size ∧ q ∉ rq') (fun i _ _ => n - (intOf i).toNat)
  case atStart => exact ⟨0, rq, [], rfl, by omega, by simpa [layS] using HM.out, Row.nil _ _ _ _, Ch.refl _ _, fun b hb => .inl hb, by simp⟩
  case round =>
    obtain ⟨j, rq', oq, rfl, hj, hm, ho, hc, hrq', hq⟩ := hrel
    clear HM
    have HMM := Lib.hid hm
    have HO := Lib.hid ho
    have HC := Lib.hid hc
    have HRF := Lib.hid hrq'
    have HQ := Lib.hid hq
    obtain ⟨ao2, cap2, rfl, o1, o2, o3⟩ := ho.rd
    obtain ⟨v, g1, g2⟩ := hm.hm
    have hlo := HLE.out j
    rw [List.length_take] at hlo
    by_cases hlt : j < n
    · have hjl : j < cs.length := by rw [HCL.out]; exact hlt
      obtain ⟨b, off, rfl, hbn, hjj⟩ := HRD.out.2.resolve_left (by omega)
      have KA : Hid (∀ W, Ch (qp :: rb :: rq) w W → W.cell? ⟨b, off + j, none⟩ = some (.int .i64 (cs.getD j 0))) := Lib.hid (fun W hW => hW.cell ((hjj j hlt).trans (ints_get hjl)) hbn)
      have HBN : Hid (b < w.heap.size) := Lib.hid (World.block_lt_of_cell? w _ ((hjj j hlt).trans (ints_get hjl)))
      have a1 := KA.out wr hc
      have m0 := cell_at (i := 0) g1
      simp only [List.getElem?_toArray, List.getElem?_cons_zero] at m0
      have TK : Hid (layS l (cs.take (j + 1)) = lay1 (layS l (cs.take j)) (cs.getD j 0)) := Lib.hid (by rw [take_snoc cs j 0 hjl, layS_snoc])
      have SH := Lib.hid (fun W (hW : Ch [] wr W) => R03.Shade_any W rp rb _ (cs.getD j 0) (hm.ch0 hW).rh)
      have ltI : (j : Int) < n := by omega
      generalize cs.getD j 0 = c at *
      unfold lay1 at TK
      clear hjj hbn hjl ho hm hc hrq' hq g1 g2 o3
      generalize layS l (cs.take j) = st at *
      obtain ⟨lj, oj⟩ := st
      simp only at TK SH hlo o1
      generalize hoL : oj.length = noj at *
      have HOL := Lib.hid hoL
      clear hoL
      go_wp2_with fail
      go_still_tail 8, (by kernel_rfl)
      change wpList _ _ _ _ _ wr.drew
      have S2 := SH.out wr.drew ((Ch.refl _ _).drew)
      have HM2 := Lib.hid (HMM.out.ch0 ((Ch.refl [] wr).drew))
      have HO2 := Lib.hid (HO.out.ch ((Ch.refl [] wr).drew) (by simp))
      have HC2 := Lib.hid (HC.out.drew)
      have HS2 : Hid (wr.drew.heap.size = wr.heap.size) := Lib.hid rfl
      clear a1 m0 SH
      generalize wr.drew = wd at *
      cases htb : turnB lj c 0 1
      · rw [htb] at S2 TK
        have htr : turn lj c 0 1 = lj := by simp [turn, htb]
        rw [htr] at S2
        simp only [Bool.false_eq_true, if_false] at TK
        clear htb htr
        go_wp2_with fail
        refine S2.mono ?_
        rintro e w2 ⟨rfl, t1, t2⟩
        have T1 := Lib.hid t1
        have T2 := Lib.hid t2
        clear S2 t1 t2
        go_wp2_with fail
        go_roundw
        case rel =>
          have hs2 := T2.out.size
          have hs1 := HS2.out
          exact ⟨j + 1, rq', oq, by go_num, by omega, by rw [TK.out]; exact HM2.out.heap T1.out T2.out, by rw [TK.out, HOL.out]; exact HO2.out.ch T2.out (fun q hq hm => by simp at hm; subst hm; have := (HQ.out _ hq).1; have := HLT.out.2.2; omega), HC2.out.trans T2.out (by simp), HRF.out, fun q hq => by
            obtain ⟨z1, z2, z3⟩ := HQ.out q hq
            exact ⟨z1, by omega, z3⟩⟩
        case measure => simp [intOf]; omega
      · rw [htb] at S2 TK
        simp only [if_true] at TK
        clear htb
        go_wp2_with fail
        refine S2.mono ?_
        rintro e w2 ⟨rfl, t1, t2⟩
        have HM3 := Lib.hid (HM2.out.heap t1 t2)
        have HC3 := Lib.hid (HC2.out.trans t2 (by simp))
        have hoq : ∀ q ∈ oq, q ∉ [rb] := fun q hq hm => by simp at hm; subst hm; have := (HQ.out _ hq).1; have := HLT.out.2.2; omega
        have CA := Lib.hid ((Ch.refl [] w2).alloc (.cells #[.int .i64 c] 3))
        have HR1 := Lib.hid ((HO2.out.ch t2 hoq).ch CA.out (by simp))
        have HN1 := Lib.hid (newL (w := w2) (b := w2.heap.size) rfl [.int .i64 c] 3)
        have a1 := KA.out w2 HC3.out
        have hs2 := t2.size
        have hs1 := HS2.out
        have HS3 : Hid (wr.heap.size ≤ w2.heap.size) := Lib.hid (by omega)
        clear S2 t1 t2 hoq hs2 hs1
        go_wp2_with (at_builtin; go_loud (refine wpList_append_row _ rfl _ _ 26 rfl 3 i0 _ 1 8 Tryd.underlying26 hi hz0 hz1 hz2 rfl (by decide) rfl HR1.out ⟨w2.heap.size, 0, none⟩ 1 1 [.int .i64 c] rfl rfl HN1.out (one1 _ _) (by unfold maxLen; omega) (by omega) ?_))
        intro v' w3 oq' hr4 hc4 hq4
        obtain ⟨ao4, cap4, rfl, _⟩ := hr4.rd
        have hof : ∀ q ∈ oq, q ≠ qp ∧ q ≠ rp ∧ q ≠ rb ∧ q ∉ rq' := fun q hq => by
          obtain ⟨z1, z2, z3⟩ := HQ.out q hq
          obtain ⟨y1, y2, y3⟩ := HLT.out
          exact ⟨by omega, by omega, by omega, z3⟩
        have HM4 : Hid (RK w3 qp rp rb (turn lj c 0 1) (row ++ oj) rq') := Lib.hid ((HM3.out.ch0 CA.out).ch hc4 (fun hm => (hof _ hm).1 rfl) (fun hm => (hof _ hm).2.1 rfl) (fun hm => (hof _ hm).2.2.1 rfl) (fun q hq hm => (hof q hm).2.2.2 hq))
        have C4 : Hid (Ch (qp :: rb :: rq) w w3) := Lib.hid ((HC3.out.trans0 CA.out).trans hc4 (fun q hq => .inr (HQ.out q hq).1))
        have HR4 := Lib.hid hr4
        have HC4 := Lib.hid hc4
        have HQ4 := Lib.hid hq4
        have a1 := KA.out w3 C4.out
        clear hr4 hc4 hq4 hof
        obtain ⟨vg, g1, g2⟩ := HM4.out.hm
        obtain ⟨ag, cg, rfl, g3, g4, _⟩ := g2.rd
        have m1 := cell_at (i := 1) g1
        simp only [List.getElem?_toArray, List.getElem?_cons_zero, List.getElem?_cons_succ] at m1
        rw [List.length_append, HOL.out] at m1 g3
        have HG1 := Lib.hid g1
        have CB : Ch [] w3 (w3.drew.alloc (.cells #[.int .i64 c] 3)) := (Ch.refl [] w3).drew.alloc _
        have HRG : Hid (Row (w3.drew.alloc (.cells #[.int .i64 c] 3)) 3 1 (.slice ag (row.length + noj) cg) rq' (row.length + noj) (ints .i64 (row ++ oj))) := Lib.hid (by
          have := g2.ch CB (by simp)
          rw [List.length_append, HOL.out] at this
          exact this)
        have HNG := Lib.hid (newL (w := w3.drew) (b := w3.heap.size) rfl [.int .i64 c] 3)
        have HM5 := Lib.hid (HM4.out.ch0 CB)
        have HCB := Lib.hid CB
        have HNQ : Hid (qp ∉ rq') := Lib.hid (fun hm => (HM4.out.mr _ hm).1 rfl)
        have b1 : w3.drew.cell? ⟨b, off + j, none⟩ = some (.int .i64 c) := a1
        have b2 : w3.drew.cell? ⟨qp, 1, none⟩ = some (.slice ag (row.length + noj) cg) := m1
        have b3 : (w3.drew.alloc (.cells #[.int .i64 c] 3)).cell? ⟨qp, 1, none⟩ = some (.slice ag (row.length + noj) cg) := HCB.out.cell m1 (by simp)
        have b4 : (w3.alloc (.cells #[.int .i64 c] 3)).drew.cell? ⟨qp, 1, none⟩ = some (.slice ag (row.length + noj) cg) := b3
        clear g1 g2 g3 g4 CB
        go_wp2_with fail
        go_region_law
          ((refine step_append_row (by rfl) _ _ 26 (by rfl) 3 i0 (.int .i64 0) 1 8 Tryd.underlying26 hi hz0 hz1 hz2 rfl (by decide) (by rfl) HRG.out ⟨w3.heap.size, 0, none⟩ 1 1 [.int .i64 c] (by rfl) rfl HNG.out (one1 _ _) (by unfold maxLen; omega) (by omega) ?_
            intro v' w5 qs' hr5 hc5 hq5
            obtain ⟨ao5, cap5, rfl, _⟩ := hr5.rd
            have p1 := hc5.heap (HCB.out.heap HG1.out (by simp)) HNQ.out
            have p2 := cell_at (i := 1) p1
            have p3 := free_at (i := 1) p1
            simp only [List.getElem?_toArray, List.getElem?_cons_zero, List.getElem?_cons_succ] at p2
            have HR5 := Lib.hid hr5
            have HC5 : Hid (Ch rq' (w3.drew.alloc (.cells #[.int .i64 c] 3)) w5) := Lib.hid hc5
            have HQ5 : Hid (qs' = rq' ∨ ∃ q', qs' = [q'] ∧ (w3.drew.alloc (.cells #[.int .i64 c] 3)).heap.size ≤ q' ∧ q' < w5.heap.size) := Lib.hid hq5
            clear hr5 hc5 hq5 p1))
        all_goals
          have e5 : (row ++ (oj ++ [c])).length = row.length + noj + 1 := by simp [HOL.out]; omega
          have Z := HM5.out.row (row' := row ++ (oj ++ [c])) (by rw [e5, ← List.append_assoc, ints_snoc]; exact HR5.out) HC5.out HQ5.out
          have hs2 := HS3.out
          have hs3 := HC4.out.size
          have hs4 := HC5.out.size
          have hsa : (w2.alloc (.cells #[.int .i64 c] 3)).heap.size = w2.heap.size + 1 := by rw [World.size_alloc]
          have hsb : (w3.drew.alloc (.cells #[.int .i64 c] 3)).heap.size = w3.heap.size + 1 := by rw [World.size_alloc]; rfl
          have hoq' : ∀ q ∈ oq', w.heap.size ≤ q ∧ q < w3.heap.size ∧ q ∉ rq' := fun q hq => by
            rcases HQ4.out with e | ⟨q', e, h1, h2⟩
            · rw [e] at hq
              obtain ⟨z1, z2, z3⟩ := HQ.out q hq
              exact ⟨z1, by omega, z3⟩
            · rw [e] at hq; simp at hq; subst hq
              have hw := HC.out.size
              exact ⟨by omega, h2, fun hm => by have := HM3.out.rf q hm; omega⟩
          have Z1 := Lib.hid Z.1
          have Z2 := Lib.hid Z.2
          have OQ := Lib.hid hoq'
          have SZ := Lib.hid Z.2.size
          clear Z hs2 hs3 hs4 hsa hoq' e5 p2 p3 a1 m1 b1 b2 b3 b4
          go_wp2_with fail
          go_roundw
          case rel =>
            have hsb : (w3.drew.alloc (.cells #[.int .i64 c] 3)).heap.size = w3.heap.size + 1 := by rw [World.size_alloc]; rfl
            have hz := SZ.out
            have hw := HC.out.size
            have hw3 := HS3.out
            have h34 := HC4.out.size
            have hsa : (w2.alloc (.cells #[.int .i64 c] 3)).heap.size = w2.heap.size + 1 := by rw [World.size_alloc]
            have hlt := HLT.out
            have hlast : ∀ q ∈ qs', q ∈ rq' ∨ w3.heap.size < q := fun q hq => by
              rcases HQ5.out with e | ⟨q', e, h1, h2⟩
              · rw [e] at hq; exact .inl hq
              · rw [e] at hq; simp at hq; subst hq; right; omega
            have HO6 : Row (w5.setCell ⟨qp, 1, none⟩ (.slice ao5 (row.length + noj + 1) cap5)) 3 1 (.slice ao4 (noj + 1) cap4) oq' (noj + 1) (ints .i64 oj ++ [.int .i64 c]) := (HR4.out.ch HCB.out (by simp)).ch Z2.out (fun q hq hm => by
              obtain ⟨z1, z2, z3⟩ := OQ.out q hq
              rcases List.mem_cons.1 hm with e | hm
              · omega
              · exact z3 hm)
            refine ⟨j + 1, qs', oq', by go_num, by omega, by rw [TK.out]; exact Z1.out, by rw [TK.out]; simp only; rw [List.length_append, HOL.out, ints_snoc]; exact HO6, (C4.out.trans0 HCB.out).trans Z2.out (fun q hq => ?_), fun q hq => ?_, fun q hq => ?_⟩
            · rcases List.mem_cons.1 hq with e | hq
              · left; rw [e]; simp
              · rcases HRF.out q hq with e | e
                · left; simp [e]
                · right; exact e
            · rcases hlast q hq with e | e
              · exact HRF.out q e
              · right; omega
            · obtain ⟨z1, z2, z3⟩ := OQ.out q hq
              refine ⟨z1, by omega, fun hm => ?_⟩
              rcases hlast q hm with e | e
              · exact z3 e
              · omega
          case measure => simp [intOf]; omega
    · obtain rfl : n = j := by omega
      have e1 : cs.take n = cs := List.take_of_length_le (by rw [HCL.out]; exact Nat.le_refl _)
      rw [e1] at HMM HO o1 o3 hlo ⊢
      have Z : Hid (RPost w qp rp rb rq (layS l cs).1 (row ++ (layS l cs).2) (layS l cs).2 (.returned (.slice ao2 (layS l cs).2.length cap2)) wr) := Lib.hid ⟨_, oq, rq', rfl, HO.out, HMM.out, HC.out, HRF.out, HQ.out⟩
      clear ho hm hc hrq' hq g1 g2 o3 hlo
      generalize (layS l cs).2.length = no at *
      go_wp2_with fail
      rw [HRR.out]
      exact Z.out
end Go.Proofs.YtefamhdkfdgdjaaDoor.R15
