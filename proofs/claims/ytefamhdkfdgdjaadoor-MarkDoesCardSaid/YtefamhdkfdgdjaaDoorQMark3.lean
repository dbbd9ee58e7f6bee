/-
  CHAPTER 15: the walk of Marker.Lay.
-/
import Derived.Test.YtefamhdkfdgdjaaDoorQMark2
set_option linter.unusedVariables false
set_option linter.unusedSimpArgs false
set_option maxRecDepth 100000
namespace Go.Proofs.YtefamhdkfdgdjaaDoor.Mk
open Go.RowKit Go.Proofs.YtefamhdkfdgdjaaDoor.Wd Go.Proofs.YtefamhdkfdgdjaaDoor.Hp Go.Proofs.YtefamhdkfdgdjaaDoor.Sm Go.Proofs.YtefamhdkfdgdjaaDoor.Ato Go.Proofs.YtefamhdkfdgdjaaDoor.Cp Go.Proofs.YtefamhdkfdgdjaaDoor.Cl
theorem made_one (v : Value) : ∀ n : Nat, madeCells #[v] n = (List.replicate n v).toArray := by
  intro n
  apply Array.ext_getElem?
  intro i
  by_cases h : i < n
  · simp [madeCells, h, Nat.mod_one]
  · simp [madeCells, h]
theorem run_make_row (w : World) (n : Nat) (h : n ≤ 10000000) : (Instr.makeSlice 26 (.int .i64 0) (.int .i64 (n : Int))).run Tryd.prog w = .ok (.slice (some ⟨w.heap.size, 0, none⟩) 0 n) (w.alloc (.cells (ints .i64 (List.replicate n 0)).toArray 3)) := by
  obtain ⟨i, hi, he⟩ := Option.map_eq_some_iff.1 infoInt
  simp only [Prod.mk.injEq] at he
  obtain ⟨e1, e2, e3⟩ := he
  have := run_make (P := Tryd.prog) w 26 3 i _ Tryd.underlying26 hi e1 .i64 .i64 0 n (by omega) (by omega) (by rw [e3]; omega) (by omega)
  rw [this, e2]
  have e4 : (Value.int .i64 0).cells = #[.int .i64 0] := rfl
  rw [e4, Nat.mul_one, made_one, Int.toNat_natCast, show ints .i64 (List.replicate n 0) = List.replicate n (.int .i64 0) by simp [ints]]
  rfl
/-- What Lay answers. -/
def LayPost (w : World) (mp p s : Nat) (F rq : List Nat) (l' : List Cel) (row' : List Int) (out : List Int) (en : Ending) (w' : World) : Prop :=
  ∃ v qs F' rq', en = .returned v ∧ Row w' 3 1 v qs out.length (ints .i64 out) ∧ MM w' mp p s F' l' row' rq' ∧ Ch (mp :: s :: rq) w w' ∧ (∀ b ∈ F', b ∈ F ∨ w.heap.size ≤ b) ∧ (∀ q ∈ rq', q ∈ rq ∨ w.heap.size ≤ q) ∧ ∀ q ∈ qs, w.heap.size ≤ q ∧ q < w'.heap.size ∧ q ∉ F' ∧ q ∉ rq' ∧ q ≠ mp
/-- A slice that reads as xs, in a block that is none of T. -/
def RdT (w : World) (ao : Option Addr) (m : Nat) (xs : List Value) (T : List Nat) : Prop := xs.length = m ∧ (m = 0 ∨ ∃ b off, ao = some ⟨b, off, none⟩ ∧ b ∉ T ∧ ∀ j, j < m → w.cell? ⟨b, off + j, none⟩ = xs[j]?)
set_option maxHeartbeats 4000000 in
theorem Lay_any (w : World) (mp p s : Nat) (F : List Nat) (l : List Cel) (row : List Int) (rq : List Nat) (ao : Option Addr) (n cap : Nat) (cs : List Int) (h : MM w mp p s F l row rq) (hr : RdT w ao n (ints .i64 cs) [s]) (hn : row.length + n ≤ 5000000) :
    Calls Tryd.prog 31 #[.pointer (some ⟨mp, 0, none⟩), .slice ao n cap] w (LayPost w mp p s F rq (layS l cs).1 (row ++ (layS l cs).2) (layS l cs).2) := by
  have hcl : cs.length = n := by simpa [ints] using hr.1
  have hmk : ∀ w : World, _ := fun w => run_make_row w n (by omega)
  obtain ⟨i0, hi, he⟩ := Option.map_eq_some_iff.1 infoInt
  simp only [Prod.mk.injEq] at he
  obtain ⟨hz0, hz1, hz2⟩ := he
  obtain ⟨W, hW⟩ : ∃ W, W = w.alloc (.cells (ints .i64 (List.replicate n 0)).toArray 3) := ⟨_, rfl⟩
  have C0 : Ch [] w W := by rw [hW]; exact (Ch.refl _ _).alloc _
  have hnew : W.heap[w.heap.size]? = some (.cells (ints .i64 (List.replicate n 0)).toArray 3 (0, 0)) := by rw [hW]; exact heap_new w _
  have hszW : W.heap.size = w.heap.size + 1 := by rw [hW, World.size_alloc]
  have S0 : Hid (Row W 3 1 (.slice (some ⟨w.heap.size, 0, none⟩) 0 n) [w.heap.size] (layS l (cs.take 0)).2.length (ints .i64 (layS l (cs.take 0)).2)) := Lib.hid ⟨by simp [ints, layS], _, n, rfl, by simp [layS], by unfold maxLen; omega, (by intro h; cases h), (by
    by_cases h0 : n = 0
    · exact .inl h0
    · exact .inr ⟨w.heap.size, 0, _, by simp, rfl, hnew, by simp [ints], fun j hj => by simp [layS] at hj⟩)⟩
  have HM := Lib.hid (h.ch0 C0)
  have HC0 := Lib.hid C0
  have HRD := Lib.hid hr
  have HCL := Lib.hid hcl
  have HLE := Lib.hid (fun j => layS_len l (cs.take j))
  have HSW := Lib.hid hszW
  have HRQ : Hid (∀ q ∈ rq, q < w.heap.size) := Lib.hid (fun q hq => (h.rf q hq).2)
  have HF : Hid (∀ q ∈ F, q < w.heap.size) := Lib.hid h.is.lt
  have HSF : Hid (s ∈ F) := Lib.hid h.is.sf
  have HMP : Hid (mp < w.heap.size) := Lib.hid (by obtain ⟨v, g1, g2⟩ := h.hm; exact lt_of g1)
  have HN0 := hn
  obtain ⟨R, hR⟩ : ∃ R, R = LayPost w mp p s F rq (layS l cs).1 (row ++ (layS l cs).2) (layS l cs).2 := ⟨_, rfl⟩
  have HRR := Lib.hid hR
  rw [← hR]
  have hrl : row.length ≤ 5000000 := by omega
  clear h hr C0 hnew hszW hcl hR
  go_enter Tryd.func31, Tryd.ntmps31
  go_wp2_with fail
  rw [← hW]
  clear hW hmk
  go_loopw [13, 5] (fun i o wr => ∃ (j : Nat) (F' oq : List Nat), i = .int .i64 j ∧ j ≤ n ∧ MM wr mp p s F' (layS l (cs.take j)).1 row rq ∧ Row wr 3 1 o oq (layS l (cs.take j)).2.length (ints .i64 (layS l (cs.take j)).2) ∧ Ch [s] w wr ∧ (∀ b ∈ F', b ∈ F ∨ w.heap.size ≤ b) ∧ ∀ q ∈ oq, w.heap.size ≤ q ∧ q < wr.heap.size ∧ q ∉ F') (fun i _ _ => n - (intOf i).toNat)
  case atStart => exact ⟨0, F, [w.heap.size], rfl, by omega, HM.out, S0.out, HC0.out.mono (by simp), fun b hb => .inl hb, fun q hq => by simp at hq; subst hq; exact ⟨Nat.le_refl _, by have := HSW.out; omega, fun hm => by have := HF.out _ hm; omega⟩⟩
  case round =>
    obtain ⟨j, F', oq, rfl, hj, hm, ho, hc, hF', hq⟩ := hrel
    clear HM S0
    have HMM := Lib.hid hm
    have HO := Lib.hid ho
    have HC := Lib.hid hc
    have HFF := Lib.hid hF'
    have HQ := Lib.hid hq
    obtain ⟨ao2, cap2, rfl, o1, o2, o3⟩ := ho.rd
    obtain ⟨v, g1, g2⟩ := hm.hm
    have hlo := HLE.out j
    rw [List.length_take] at hlo
    by_cases hlt : j < n
    · have hjl : j < cs.length := by rw [HCL.out]; exact hlt
      obtain ⟨b, off, rfl, hbn, hjj⟩ := HRD.out.2.resolve_left (by omega)
      have a1 := hc.cell ((hjj j hlt).trans (ints_get hjl)) hbn
      have m0 := cell_at (i := 0) g1
      simp only [List.getElem?_toArray, List.getElem?_cons_zero] at m0
      have TK : Hid (layS l (cs.take (j + 1)) = lay1 (layS l (cs.take j)) (cs.getD j 0)) := Lib.hid (by rw [take_snoc cs j 0 hjl, layS_snoc])
      have SH := Shade_any wr p s F' _ (cs.getD j 0) hm.is
      have ltI : (j : Int) < n := by omega
      generalize cs.getD j 0 = c at *
      unfold lay1 at TK
      clear hjj hbn hjl ho hm hc hF' hq g1 g2 o3
      generalize layS l (cs.take j) = st at *
      obtain ⟨lj, oj⟩ := st
      simp only at TK SH hlo o1
      generalize hoL : oj.length = noj at *
      have HOL := Lib.hid hoL
      clear hoL
      cases htb : turnB lj c 0 1
      · rw [htb] at SH TK
        have htr : turn lj c 0 1 = lj := by simp [turn, htb]
        rw [htr] at SH
        simp only [Bool.false_eq_true, if_false] at TK
        clear htb htr
        go_wp2_with fail
        refine SH.mono ?_
        rintro e w2 ⟨rfl, ht⟩
        obtain ⟨F2, t1, t2, t3⟩ := HMM.out.to ht
        have T1 := Lib.hid t1
        have T2 := Lib.hid t2
        have T3 := Lib.hid t3
        clear SH ht t1 t2 t3
        go_wp2_with fail
        go_roundw
        case rel =>
          have hs2 := T2.out.size
          have hs1 := HC.out.size
          refine ⟨j + 1, F2, oq, by go_num, by omega, by rw [TK.out]; exact T1.out, by rw [TK.out, HOL.out]; exact HO.out.ch T2.out (fun q hq hm => by simp at hm; subst hm; exact (HQ.out _ hq).2.2 HMM.out.is.sf), HC.out.trans' T2.out, fun b hb => ?_, fun q hq => ?_⟩
          · rcases T3.out b hb with h1 | h1
            · exact HFF.out b h1
            · right; omega
          · obtain ⟨z1, z2, z3⟩ := HQ.out q hq
            refine ⟨z1, by omega, fun hm => ?_⟩
            rcases T3.out q hm with h1 | h1
            · exact z3 h1
            · omega
        case measure => simp [intOf]; omega
      · rw [htb] at SH TK
        simp only [if_true] at TK
        clear htb
        go_wp2_with fail
        refine SH.mono ?_
        rintro e w2 ⟨rfl, ht⟩
        obtain ⟨F2, t1, t2, t3⟩ := HMM.out.to ht
        have T1 := Lib.hid t1
        have T2 := Lib.hid t2
        have T3 := Lib.hid t3
        have CA := Lib.hid ((Ch.refl [] w2).alloc (.cells #[.int .i64 c] 3))
        have HR1 := Lib.hid ((HO.out.ch t2 (fun q hq hm => by simp at hm; subst hm; exact (HQ.out _ hq).2.2 HMM.out.is.sf)).ch CA.out (by simp))
        have HN1 := Lib.hid (newL (w := w2) (b := w2.heap.size) rfl [.int .i64 c] 3)
        clear SH ht t1 t2 t3 a1 m0
        go_wp2_with (at_builtin; go_loud (refine wpList_append_row _ rfl _ _ 26 rfl 3 i0 _ 1 8 Tryd.underlying26 hi hz0 hz1 hz2 rfl (by decide) rfl HR1.out ⟨w2.heap.size, 0, none⟩ 1 1 [.int .i64 c] rfl rfl HN1.out (one1 _ _) (by unfold maxLen; omega) (by omega) ?_))
        intro v' w3 oq' hr4 hc4 hq4
        obtain ⟨ao4, cap4, rfl, _⟩ := hr4.rd
        have HR4 := Lib.hid hr4
        have HC4 := Lib.hid hc4
        have HQ4 := Lib.hid hq4
        clear hr4 hc4 hq4
        go_wp2_with fail
        go_roundw
        case rel =>
          have hs1 := HC.out.size
          have hs2 := T2.out.size
          have hs3 := CA.out.size
          have hs4 := HC4.out.size
          have hfo : ∀ q ∈ oq, q ∉ F2 := fun q hq hm => by
            obtain ⟨z1, z2, z3⟩ := HQ.out q hq
            rcases T3.out q hm with h1 | h1
            · exact z3 h1
            · omega
          have hM3 : MM w3 mp p s F2 (turn lj c 0 1) row rq := (T1.out.ch0 CA.out).ch HC4.out (fun hm => by have := (HQ.out _ hm).1; have := HMP.out; omega) (fun b hb hm => hfo b hm hb) (fun q hq hm => by have := (HQ.out _ hm).1; have := HRQ.out q hq; omega)
          refine ⟨j + 1, F2, oq', by go_num, by omega, by rw [TK.out]; exact hM3, by rw [TK.out]; simp only; rw [List.length_append, HOL.out, ints_snoc]; exact HR4.out, ((HC.out.trans' T2.out).trans0 CA.out).trans HC4.out (fun q hq => .inr (HQ.out q hq).1), fun b hb => ?_, fun q hq => ?_⟩
          · rcases T3.out b hb with h1 | h1
            · exact HFF.out b h1
            · right; omega
          · rcases HQ4.out with rfl | ⟨q', rfl, h1, h2⟩
            · obtain ⟨z1, z2, z3⟩ := HQ.out q hq
              exact ⟨z1, by omega, hfo q hq⟩
            · simp at hq; subst hq
              exact ⟨by omega, h2, fun hm => by have := T1.out.is.lt _ hm; omega⟩
        case measure => simp [intOf]; omega
    · obtain rfl : n = j := by omega
      have e1 : cs.take n = cs := List.take_of_length_le (by rw [HCL.out]; exact Nat.le_refl _)
      rw [e1] at HMM HO o1 o3 hlo ⊢
      rw [Nat.mul_one] at o3
      generalize layS l cs = st at *
      obtain ⟨l', out⟩ := st
      simp only at hlo o1 o3 HMM HO HRR ⊢
      have m0 := cell_at (i := 1) g1
      simp only [List.getElem?_toArray, List.getElem?_cons_zero, List.getElem?_cons_succ] at m0
      have m1 := free_at (i := 1) g1
      obtain ⟨av, cv, rfl, _⟩ := g2.rd
      have HROW := Lib.hid g2
      have HG1 := Lib.hid g1
      have HOR := Lib.hid o3
      have H1C := Lib.hid (ints_one .i64 out)
      clear ho hm hc hF' hq g1 g2 o3
      generalize hoL : out.length = no at *
      have HOL := Lib.hid hoL
      clear hoL
      generalize hrL : row.length = nr at *
      have HRL := Lib.hid hrL
      clear hrL
      go_wp2_with (at_builtin; go_loud (refine wpList_append_list _ rfl _ _ 26 rfl 3 i0 _ 1 8 Tryd.underlying26 hi hz0 hz1 hz2 rfl (by decide) rfl HROW.out ao2 no cap2 rfl (ints .i64 out) (by have := HOR.out; rwa [Nat.mul_one]) H1C.out (by unfold maxLen; omega) (by omega) ?_))
      intro v' w3 rq' hr4 hc4 hq4
      have hmr : mp ∉ rq := HMM.out.mr
      have hh := hc4.heap HG1.out hmr
      have kx := cell_at (i := 1) hh
      have fx := free_at (i := 1) hh
      simp only [List.getElem?_toArray, List.getElem?_cons_zero, List.getElem?_cons_succ] at kx
      obtain ⟨ao4, cap4, rfl, _⟩ := hr4.rd
      have HR4 := Lib.hid hr4
      have HC4 := Lib.hid hc4
      have HQ4 := Lib.hid hq4
      have HH := Lib.hid hh
      clear hr4 hc4 hq4 hh m0 m1
      have X3 : Hid (Ch [mp] w3 (w3.setCell ⟨mp, 1, none⟩ (.slice ao4 (nr + no) cap4))) := Lib.hid ((Ch.refl _ _).setCell _ _ (.inl (by simp)))
      have HO3 : Hid (Rd (w3.setCell ⟨mp, 1, none⟩ (.slice ao4 (nr + no) cap4)) ao2 no (ints .i64 out)) := Lib.hid (by
        have hr3 := (HO.out.ch HC4.out (fun q hq hm => by have := (HQ.out _ hq).1; have := HRQ.out q hm; omega)).ch X3.out (fun q hq hm => by simp at hm; subst hm; have := (HQ.out _ hq).1; have := HMP.out; omega)
        obtain ⟨_, _, he, _, _, hh⟩ := hr3.rd
        simp only [Value.slice.injEq, true_and] at he
        obtain ⟨rfl, rfl⟩ := he
        rw [Nat.mul_one] at hh
        exact hh)
      have CLN := CloneI_any (w3.setCell ⟨mp, 1, none⟩ (.slice ao4 (nr + no) cap4)) ao2 no cap2 out HOL.out (by omega) HO3.out
      unfold MkI at CLN
      go_wp2_with fail
      refine CLN.mono ?_
      rintro e w5 ⟨v5, q5, rfl, c1, c2, c3⟩
      have Z : Hid (LayPost w mp p s F rq l' (row ++ out) out (.returned v5) w5) := Lib.hid (by
        have s1 := HC.out.size
        have s3 := HC4.out.size
        have s4 := X3.out.size
        have s5 := c2.size
        have hrq' : ∀ q ∈ rq', q ∈ rq ∨ (wr.heap.size ≤ q ∧ q < w3.heap.size) := fun q hq => by
          rcases HQ4.out with rfl | ⟨q', rfl, h1, h2⟩
          · exact .inl hq
          · simp at hq; subst hq; exact .inr ⟨h1, h2⟩
        have hmp := HMP.out
        have hM : MM w5 mp p s F' l' (row ++ out) rq' := by
          refine ⟨⟨_, c2.heap (heap_set (i := 1) HH.out _) (by simp), ?_⟩, ?_, HMM.out.mf, fun hm => ?_, fun q hq => ⟨fun hm => ?_, ?_⟩⟩
          · rw [List.length_append, HRL.out, HOL.out, ints_app]
            refine ((HR4.out.ch X3.out (fun q hq hm => ?_)).ch c2 (by simp))
            simp at hm; subst hm
            rcases hrq' _ hq with h1 | h1
            · exact hmr h1
            · omega
          · refine ((HMM.out.is.ch HC4.out (fun b hb hm => (HMM.out.rf b hm).1 hb)).ch X3.out (fun b hb hm => ?_)).ch c2 (by simp)
            simp at hm; subst hm; exact HMM.out.mf hb
          · rcases hrq' _ hm with h1 | h1
            · exact hmr h1
            · omega
          · rcases hrq' _ hq with h1 | h1
            · exact (HMM.out.rf q h1).1 hm
            · have := HMM.out.is.lt _ hm; omega
          · rcases hrq' _ hq with h1 | h1
            · have := (HMM.out.rf q h1).2; omega
            · omega
        refine ⟨v5, q5, F', rq', rfl, c1, hM, (((HC.out.mono (by simp)).trans' (HC4.out.mono (by simp; intro x hx; exact .inr (.inr hx)))).trans' (X3.out.mono (by simp))).trans0 c2, HFF.out, fun q hq => ?_, fun q hq => ?_⟩
        · rcases hrq' q hq with h1 | h1
          · exact .inl h1
          · right; omega
        · have := c3 q hq
          refine ⟨by omega, by omega, fun hm => ?_, fun hm => ?_, by omega⟩
          · have := HMM.out.is.lt _ hm; omega
          · rcases hrq' q hm with h1 | h1
            · have := HRQ.out q h1; omega
            · omega)
      obtain ⟨a5, c5, rfl, _⟩ := c1.rd
      clear CLN c1 c2 c3
      go_wp2_with fail
      rw [HRR.out]
      exact Z.out
end Go.Proofs.YtefamhdkfdgdjaaDoor.Mk
