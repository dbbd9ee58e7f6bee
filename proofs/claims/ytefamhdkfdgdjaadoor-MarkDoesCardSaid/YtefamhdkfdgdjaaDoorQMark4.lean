/-
  CHAPTER 15: the walk of Marker.Shade.
-/
import Derived.Test.YtefamhdkfdgdjaaDoorQMark3
set_option linter.unusedVariables false
set_option linter.unusedSimpArgs false
set_option maxRecDepth 100000
namespace Go.Proofs.YtefamhdkfdgdjaaDoor.Mk
open Go.RowKit Go.Proofs.YtefamhdkfdgdjaaDoor.Wd Go.Proofs.YtefamhdkfdgdjaaDoor.Hp Go.Proofs.YtefamhdkfdgdjaaDoor.Sm Go.Proofs.YtefamhdkfdgdjaaDoor.Ato Go.Proofs.YtefamhdkfdgdjaaDoor.Cp Go.Proofs.YtefamhdkfdgdjaaDoor.Cl
def sh1 (s : List Cel × List Int) (x : Int) : List Cel × List Int := if isRef x then lay1 s (cellN x) else s
def shS (l : List Cel) (ws : List Int) : List Cel × List Int := ws.foldl sh1 (l, [])
theorem shS_snoc (l : List Cel) (ws : List Int) (x : Int) : shS l (ws ++ [x]) = sh1 (shS l ws) x := by simp [shS, List.foldl_append]
theorem shS_len (l : List Cel) : ∀ ws : List Int, (shS l ws).2.length ≤ ws.length := by
  intro ws
  suffices ∀ (ws : List Int) (s : List Cel × List Int), (ws.foldl sh1 s).2.length ≤ s.2.length + ws.length by simpa [shS] using this ws (l, [])
  intro ws
  induction ws with
  | nil => intro s; simp
  | cons x ws ih =>
    intro s
    have h1 := ih (sh1 s x)
    have h2 : (sh1 s x).2.length ≤ s.2.length + 1 := by unfold sh1; split; exact lay1_len s _; omega
    simp only [List.foldl_cons, List.length_cons]; omega
theorem lay1_split (l : List Cel) (o : List Int) (c : Int) : lay1 (l, o) c = ((layS l [c]).1, o ++ (layS l [c]).2) := by
  unfold layS
  simp only [List.foldl_cons, List.foldl_nil]
  unfold lay1
  split <;> simp
theorem one_int (w : World) (x : Int) (T : List Nat) (h : w.heap.size ∉ T) : RdT (w.alloc (.cells #[.int .i64 x] 3)) (some ⟨w.heap.size, 0, none⟩) 1 (ints .i64 [x]) T :=
  ⟨rfl, .inr ⟨w.heap.size, 0, rfl, h, fun j hj => by
    obtain rfl : j = 0 := by omega
    exact World.cell?_alloc_at _ _ _ _ rfl⟩⟩
set_option maxHeartbeats 4000000 in
theorem Shade_any (w : World) (mp p s : Nat) (F : List Nat) (l : List Cel) (row : List Int) (rq : List Nat) (aw : Option Addr) (m cw : Nat) (ws : List Int) (h : MM w mp p s F l row rq) (hr : RdT w aw m (ints .u64 ws) (mp :: s :: rq)) (hn : row.length + m ≤ 4000000) (hu : ∀ x ∈ ws, 0 ≤ x ∧ x < 18446744073709551616) (hb : Bnd w) (hbT : 0 ∉ mp :: s :: rq) :
    Calls Tryd.prog 12 #[.pointer (some ⟨mp, 0, none⟩), .slice aw m cw] w (LayPost w mp p s F rq (shS l ws).1 (row ++ (shS l ws).2) (shS l ws).2) := by
  have hwl : ws.length = m := by simpa [ints] using hr.1
  obtain ⟨i0, hi, he⟩ := Option.map_eq_some_iff.1 infoInt
  simp only [Prod.mk.injEq] at he
  obtain ⟨hz0, hz1, hz2⟩ := he
  have HM := Lib.hid h
  have HRD := Lib.hid hr
  have HWL := Lib.hid hwl
  have HU := Lib.hid hu
  have HB := Lib.hid hb
  have HBT := Lib.hid hbT
  have HLE := Lib.hid (fun j => shS_len l (ws.take j))
  have HRQ : Hid (∀ q ∈ rq, q < w.heap.size) := Lib.hid (fun q hq => (h.rf q hq).2)
  have HF : Hid (∀ q ∈ F, q < w.heap.size) := Lib.hid h.is.lt
  have HMP : Hid (mp < w.heap.size) := Lib.hid (by obtain ⟨v, g1, g2⟩ := h.hm; exact lt_of g1)
  obtain ⟨R, hR⟩ : ∃ R, R = LayPost w mp p s F rq (shS l ws).1 (row ++ (shS l ws).2) (shS l ws).2 := ⟨_, rfl⟩
  have HRR := Lib.hid hR
  rw [← hR]
  have hrl : row.length ≤ 4000000 := by omega
  clear h hr hwl hu hb hbT hR
  go_enter Tryd.func12, Tryd.ntmps12
  go_wp2_with fail
  go_loopw [12, 5] (fun i o wr => ∃ (j : Nat) (F' rq' oq : List Nat), i = .int .i64 j ∧ j ≤ m ∧ MM wr mp p s F' (shS l (ws.take j)).1 (row ++ (shS l (ws.take j)).2) rq' ∧ Row wr 3 1 o oq (shS l (ws.take j)).2.length (ints .i64 (shS l (ws.take j)).2) ∧ Ch (mp :: s :: rq) w wr ∧ (∀ b ∈ F', b ∈ F ∨ w.heap.size ≤ b) ∧ (∀ q ∈ rq', q ∈ rq ∨ w.heap.size ≤ q) ∧ ∀ q ∈ oq, w.heap.size ≤ q ∧ q < wr.heap.size ∧ q ∉ F' ∧ q ∉ rq') (fun i _ _ => m - (intOf i).toNat)
  case atStart => exact ⟨0, F, rq, [], rfl, by omega, by simpa [shS] using HM.out, Row.nil _ _ _ _, Ch.refl _ _, fun b hb => .inl hb, fun b hb => .inl hb, by simp⟩
  case round =>
    obtain ⟨j, F', rq', oq, rfl, hj, hm, ho, hc, hF', hrq', hq⟩ := hrel
    clear HM
    have HMM := Lib.hid hm
    have HO := Lib.hid ho
    have HC := Lib.hid hc
    have HFF := Lib.hid hF'
    have HRF := Lib.hid hrq'
    have HQ := Lib.hid hq
    obtain ⟨ao2, cap2, rfl, o1, o2, o3⟩ := ho.rd
    have hlo := HLE.out j
    rw [List.length_take] at hlo
    by_cases hlt : j < m
    · have hjl : j < ws.length := by rw [HWL.out]; exact hlt
      obtain ⟨b, off, rfl, hbn, hjj⟩ := HRD.out.2.resolve_left (by omega)
      have a1 := hc.cell ((hjj j hlt).trans (ints_get hjl)) hbn
      have hx := HU.out (ws.getD j 0) (by rw [show ws.getD j 0 = ws[j] by simp [List.getD, hjl]]; exact List.getElem_mem hjl)
      have TK : Hid (shS l (ws.take (j + 1)) = sh1 (shS l (ws.take j)) (ws.getD j 0)) := Lib.hid (by rw [take_snoc ws j 0 hjl, shS_snoc])
      generalize ws.getD j 0 = x at *
      have CC := Wd.Cell_any wr x hx.1 hx.2 (Mk.Bnd.ch HB.out hc HBT.out)
      have hrg := cellN_range x
      have ltI : (j : Int) < m := by omega
      unfold sh1 at TK
      clear hjj hbn hjl ho hm hc hF' hq o3 hx hrq'
      generalize shS l (ws.take j) = st at *
      obtain ⟨lj, oj⟩ := st
      simp only at hlo o1
      cases href : isRef x
      · rw [href] at CC TK
        simp only [Bool.false_eq_true, if_false] at TK
        clear href hrg
        generalize cellN x = cv at *
        generalize hoL : oj.length = noj at *
        have HOL := Lib.hid hoL
        clear hoL
        go_wp2_with fail
        refine CC.mono ?_
        rintro e w2 ⟨rfl, rfl⟩
        clear CC
        go_wp2_with fail
        go_roundw
        case rel => exact ⟨j + 1, F', rq', oq, by go_num, by omega, by rw [TK.out]; exact HMM.out, by rw [TK.out, HOL.out]; exact HO.out, HC.out, HFF.out, HRF.out, HQ.out⟩
        case measure => simp [intOf]; omega
      · rw [href] at CC TK
        simp only [if_true] at TK
        have TK2 : Hid (shS l (ws.take (j + 1)) = ((layS lj [cellN x]).1, oj ++ (layS lj [cellN x]).2)) := Lib.hid (by rw [TK.out, lay1_split])
        clear href hrg TK
        generalize cellN x = c at *
        have CA := Lib.hid ((Ch.refl [] wr).alloc (.cells #[.int .i64 c] 3))
        have LA := Lay_any (wr.alloc (.cells #[.int .i64 c] 3)) mp p s F' lj (row ++ oj) rq' (some ⟨wr.heap.size, 0, none⟩) 1 1 [c] (HMM.out.ch0 CA.out) (one_int wr c [s] (by have := HMM.out.is.lt _ HMM.out.is.sf; simp; omega)) (by rw [List.length_append]; omega)
        have hll := layS_len lj [c]
        generalize layS lj [c] = st2 at *
        obtain ⟨l2, o2'⟩ := st2
        simp only [List.length_cons, List.length_nil] at hll
        simp only at LA
        unfold LayPost at LA
        generalize hoL : oj.length = noj at *
        have HOL := Lib.hid hoL
        clear hoL
        go_wp2_with fail
        refine CC.mono ?_
        rintro e w2 ⟨rfl, rfl⟩
        clear CC
        go_wp2_with fail
        refine LA.mono ?_
        rintro e w3 ⟨v3, q3, F3, r3, rfl, b1, b2, b3, b4, b5, b6⟩
        have hMsz := HMM.out.is.lt
        have hst : ∀ q ∈ oq, q ∉ mp :: s :: rq' := fun q hq hm => by
          obtain ⟨z1, z2, z3, z4⟩ := HQ.out q hq
          simp only [List.mem_cons] at hm
          rcases hm with rfl | rfl | hm
          · have := HMP.out; omega
          · exact z3 HMM.out.is.sf
          · exact z4 hm
        have HR1 := Lib.hid ((HO.out.ch CA.out (by simp)).ch b3 hst)
        obtain ⟨a3, c3, rfl, _, _, hrd3⟩ := b1.rd
        rw [Nat.mul_one] at hrd3
        have HRD3 := Lib.hid hrd3
        have H1C := Lib.hid (ints_one .i64 o2')
        have B2 := Lib.hid b2
        have B3 := Lib.hid b3
        have B4 := Lib.hid b4
        have B5 := Lib.hid b5
        have B6 := Lib.hid b6
        clear LA b1 b2 b3 b4 b5 b6 hrd3 a1 hst hMsz
        generalize ho2 : o2'.length = no2 at *
        have HO2 := Lib.hid ho2
        clear ho2
        go_wp2_with (at_builtin; go_loud (refine wpList_append_list _ rfl _ _ 26 rfl 3 i0 _ 1 8 Tryd.underlying26 hi hz0 hz1 hz2 rfl (by decide) rfl HR1.out a3 no2 c3 rfl (ints .i64 o2') (by have := HRD3.out; rwa [Nat.mul_one]) H1C.out (by unfold maxLen; omega) (by omega) ?_))
        intro v' w4 oq' hr4 hc4 hq4
        obtain ⟨ao4, cap4, rfl, _⟩ := hr4.rd
        have HR4 := Lib.hid hr4
        have HC4 := Lib.hid hc4
        have HQ4 := Lib.hid hq4
        clear hr4 hc4 hq4
        go_wp2_with fail
        go_roundw
        case rel =>
          have s1 := HC.out.size
          have s2 := CA.out.size
          have s3 := B3.out.size
          have s4 := HC4.out.size
          have hnw : w2.heap.size + 1 = (w2.alloc (.cells #[.int .i64 c] 3)).heap.size := by rw [World.size_alloc]
          have hfo : ∀ q ∈ oq, q ∉ F3 ∧ q ∉ r3 ∧ q ≠ mp := fun q hq => by
            obtain ⟨z1, z2, z3, z4⟩ := HQ.out q hq
            refine ⟨fun hm => ?_, fun hm => ?_, by have := HMP.out; omega⟩
            · rcases B4.out q hm with h1 | h1
              · exact z3 h1
              · omega
            · rcases B5.out q hm with h1 | h1
              · exact z4 h1
              · omega
          have hM4 : MM w4 mp p s F3 l2 ((row ++ oj) ++ o2') r3 := B2.out.ch HC4.out (fun hm => (hfo mp hm).2.2 rfl) (fun b hb hm => (hfo b hm).1 hb) (fun q hq hm => (hfo q hm).2.1 hq)
          refine ⟨j + 1, F3, r3, oq', by go_num, by omega, by rw [TK2.out]; simp only; rw [← List.append_assoc]; exact hM4, by rw [TK2.out]; simp only; rw [List.length_append, HOL.out, HO2.out, ints_app]; exact HR4.out, ?_, fun b hb => ?_, fun q hq => ?_, fun q hq => ?_⟩
          · refine ((HC.out.trans0 CA.out).trans B3.out (fun q hq => ?_)).trans HC4.out (fun q hq => .inr (HQ.out q hq).1)
            simp only [List.mem_cons] at hq ⊢
            rcases hq with rfl | rfl | hq
            · exact .inl (.inl rfl)
            · exact .inl (.inr (.inl rfl))
            · rcases HRF.out q hq with h1 | h1
              · exact .inl (.inr (.inr h1))
              · exact .inr h1
          · rcases B4.out b hb with h1 | h1
            · exact HFF.out b h1
            · right; omega
          · rcases B5.out q hq with h1 | h1
            · exact HRF.out q h1
            · right; omega
          · rcases HQ4.out with rfl | ⟨q', rfl, h1, h2⟩
            · obtain ⟨z1, z2, z3, z4⟩ := HQ.out q hq
              exact ⟨z1, by omega, (hfo q hq).1, (hfo q hq).2.1⟩
            · simp at hq; subst hq
              exact ⟨by omega, h2, fun hm => by have := B2.out.is.lt _ hm; omega, fun hm => by have := (B2.out.rf _ hm).2; omega⟩
        case measure => simp [intOf]; omega
    · obtain rfl : m = j := by omega
      have e1 : ws.take m = ws := List.take_of_length_le (by rw [HWL.out]; exact Nat.le_refl _)
      rw [e1] at HMM HO o1 o3 hlo ⊢
      rw [Nat.mul_one] at o3
      generalize shS l ws = st at *
      obtain ⟨l', out⟩ := st
      simp only at hlo o1 o3 HMM HO HRR ⊢
      have CLN := CloneI_any wr ao2 out.length cap2 out rfl (by omega) o3
      unfold MkI at CLN
      clear ho hm hc hF' hq o3 hrq'
      generalize hoL : out.length = no at *
      have HOL := Lib.hid hoL
      clear hoL
      go_wp2_with fail
      refine CLN.mono ?_
      rintro e w5 ⟨v5, q5, rfl, c1, c2, c3⟩
      have Z : Hid (LayPost w mp p s F rq l' (row ++ out) out (.returned v5) w5) := Lib.hid (by
        have s1 := HC.out.size
        refine ⟨v5, q5, F', rq', rfl, by rw [HOL.out]; exact c1, HMM.out.ch0 c2, HC.out.trans0 c2, HFF.out, HRF.out, fun q hq => ?_⟩
        have := c3 q hq
        refine ⟨by omega, by omega, fun hm => ?_, fun hm => ?_, by have := HMP.out; omega⟩
        · have := HMM.out.is.lt _ hm; omega
        · have := (HMM.out.rf _ hm).2; omega)
      obtain ⟨a5, c5, rfl, _⟩ := c1.rd
      clear CLN c1 c2 c3
      go_wp2_with fail
      rw [HRR.out]
      exact Z.out
end Go.Proofs.YtefamhdkfdgdjaaDoor.Mk
