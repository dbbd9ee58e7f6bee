/-
  THE WALKS of package alloc, on: Free.
-/
import Derived.Test.YtdncodandmjknaaAlloc3
set_option linter.unusedVariables false
set_option linter.unusedSimpArgs false
set_option maxRecDepth 100000
namespace Go.Proofs.Ytdncodandmjknaa.Al
open Go.RowKit Go.Proofs.Ytdncodandmjknaa.Hp Go.Proofs.Ytdncodandmjknaa.Sm Go.Proofs.Ytdncodandmjknaa.Ap

def freeTo (s : St) (k : Nat) : List Int := ((List.range k).filter (fun i => s.cs.getD i 0 == 0)).map (fun i : Nat => (i : Int))
theorem freeTo_hit {s : St} {k : Nat} (h : s.cs.getD k 0 = 0) : freeTo s (k + 1) = freeTo s k ++ [(k : Int)] := by
  simp only [freeTo, List.range_succ, List.filter_append, List.filter_cons, h]
  simp
theorem freeTo_miss {s : St} {k : Nat} (h : (s.cs.getD k 0 == 0) = false) : freeTo s (k + 1) = freeTo s k := by
  simp only [freeTo, List.range_succ, List.filter_append, List.filter_cons, h]
  simp
theorem freeTo_le (s : St) (k : Nat) : (freeTo s k).length ≤ k := by
  unfold freeTo; rw [List.length_map]; exact Nat.le_trans (List.length_filter_le _ _) (by simp)

set_option maxHeartbeats 400000 in
theorem Free_any (w : World) (p c : Nat) (qs : List Nat) (s : St) (h : Is w p c qs s) :
    Calls Try.prog 16 #[.pointer (some ⟨p, 0, none⟩)] w fun e w' => ∃ v rs, e = .returned v ∧ Row w' 3 1 v rs (freeL s).length (ints .i64 (freeL s)) ∧ Ch [] w w' ∧ (∀ q ∈ rs, w.heap.size ≤ q ∧ q < w'.heap.size) := by
  have ln := h.ok.len
  obtain ⟨i0, hi, hz0, hz1, hz2⟩ := info_parts info3
  obtain ⟨ao, cap, o1, o2, o3, o4, o5, o6, o7, o8, o9, o10⟩ := h.open
  obtain ⟨L, hL⟩ : ∃ L, L = s.cs.length := ⟨_, rfl⟩
  rw [← hL] at o1 ln o8
  have O8 := Lib.hid o8
  have HL := Lib.hid hL
  have HI := Lib.hid h
  clear h o2 o3 o4 o5 o6 o7 o8 o9 o10 hL
  go_enter Try.func16, Try.ntmps16
  go_wp2_with fail
  go_loopw [3, 11] (fun v i wr => ∃ (k : Nat) (rs : List Nat), k ≤ L ∧ i = .int .i64 k ∧ Row wr 3 1 v rs (freeTo s k).length (ints .i64 (freeTo s k)) ∧ Ch [] w wr ∧ (∀ q ∈ rs, w.heap.size ≤ q ∧ q < wr.heap.size)) (fun _ i _ => L - (intOf i).toNat)
  case atStart => exact ⟨0, [], by omega, rfl, Row.nil _ _ _ _, Ch.refl _ _, fun q hq => by cases hq⟩
  case round =>
    obtain ⟨k, rs, hk, rfl, hrow, hch, hrs⟩ := hrel
    have HR := Lib.hid hrow
    have HC := Lib.hid hch
    have HS := Lib.hid hrs
    by_cases hlt : k < L
    · have c0 := hch.cell (O8.out k hlt) (by simp)
      have hle := freeTo_le s k
      obtain ⟨ao', cap', rfl, _⟩ := hrow.rd
      clear hrow hch hrs
      generalize hu : s.cs.getD k 0 = u at *
      have HU := Lib.hid hu
      clear hu
      generalize hm : (freeTo s k).length = m at *
      have HM := Lib.hid hm
      clear hm
      by_cases h0 : u = 0
      · have h0' : (u == 0) = true := by simpa using h0
        have R1 := HR.out.ch ((Ch.refl [] wr).alloc (Obj.cells #[.int .i64 k] 3)) (by simp)
        have HR1 := Lib.hid R1
        have H0 := Lib.hid h0
        clear R1 h0
        go_wp2_with (at_builtin; refine wpList_append_row _ rfl _ _ 65 rfl 3 i0 (.int .i64 0) 1 8 Try.underlying65 hi hz0 hz1 hz2 rfl (by decide) rfl HR1.out ⟨wr.heap.size, 0, none⟩ 1 1 [.int .i64 k] rfl rfl ?c1 ?c2 (by unfold maxLen; omega) (by omega) ?_)
        case c1 =>
          intro j u hj
          match j, hj with
          | 0, hj => simp at hj; subst hj; simp [Addr.add]
        case c2 => intro u hu; simp at hu; subst hu; rfl
        intro v' w1 qs' hr4 hc4 hq4
        have HR4 := Lib.hid hr4
        have HC4 := Lib.hid hc4
        have HQ4 := Lib.hid hq4
        clear hr4 hc4 hq4
        go_wp2_with fail
        go_roundw
        case rel =>
          have CA : Ch [] wr (wr.alloc (Obj.cells #[.int .i64 k] 3)) := (Ch.refl _ _).alloc _
          have hs1 := HC.out.size
          have hs2 := CA.size
          have hs3 := HC4.out.size
          have C1 : Ch [] w w1 := (HC.out.trans' CA).trans HC4.out (fun x hx => .inr (HS.out x hx).1)
          have ef := freeTo_hit (s := s) (k := k) (by rw [HU.out, H0.out])
          refine ⟨k + 1, qs', by omega, by go_num, ?_, C1, fun q hq => ?_⟩
          · rw [ef, List.length_append, HM.out]
            have := HR4.out
            simp only [ints, List.map_append, List.map_cons, List.map_nil] at this ⊢
            exact this
          · rcases HQ4.out with e | ⟨q', e, h3, h4⟩
            · rw [e] at hq; have := HS.out q hq; omega
            · rw [e] at hq; simp at hq; subst hq; omega
        case measure => simp [intOf]; omega
      · have h0' : (u == 0) = false := by simpa using h0
        go_wp2_with fail
        go_roundw
        case rel =>
          have ef := freeTo_miss (s := s) (k := k) (by rw [HU.out]; exact h0')
          exact ⟨k + 1, rs, by omega, by go_num, by rw [ef, HM.out]; exact HR.out, HC.out, HS.out⟩
        case measure => simp [intOf]; omega
    · obtain rfl : k = L := by omega
      clear hrow hch hrs
      go_wp2_with fail
      go_ret
      have e : freeTo s k = freeL s := by rw [HL.out]; rfl
      have := HR.out
      rw [e] at this
      exact ⟨_, rs, rfl, this, HC.out, HS.out⟩
end Go.Proofs.Ytdncodandmjknaa.Al
