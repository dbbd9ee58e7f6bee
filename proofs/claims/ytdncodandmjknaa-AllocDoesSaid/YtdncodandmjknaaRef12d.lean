/-
  THE DOCUMENT's ALLOCATOR, on: Free, Finish.
-/
import Derived.Test.YtdncodandmjknaaRef12c
import Derived.Test.YtdncodandmjknaaKeep4
set_option linter.unusedVariables false
set_option linter.unusedSimpArgs false
set_option maxRecDepth 100000
namespace Go.Proofs.Ytdncodandmjknaa.R12
open Go.RowKit Go.Proofs.Ytdncodandmjknaa.Hp Go.Proofs.Ytdncodandmjknaa.Sm Go.Proofs.Ytdncodandmjknaa.Ap Go.Proofs.Ytdncodandmjknaa.Al Go.Proofs.Ytdncodandmjknaa.Kp

set_option maxHeartbeats 400000 in
theorem Free_any (w : World) (p c : Nat) (qs : List Nat) (s : St) (h : Rs w p c qs s) (inv : Inv s) :
    Calls Try.prog 28 #[.pointer (some ⟨p, 0, none⟩)] w fun e w' => ∃ v rs, e = .returned v ∧ Row w' 3 1 v rs (freeL s).length (ints .i64 (freeL s)) ∧ Ch [] w w' ∧ (∀ q ∈ rs, w.heap.size ≤ q ∧ q < w'.heap.size) := by
  obtain ⟨i0, hi, hz0, hz1, hz2⟩ := info_parts info3
  obtain ⟨⟨l, qv, h1, h2, h3⟩, h4⟩ := h
  obtain ⟨ao, cap, rfl, k1, k2, h6⟩ := h3.rd
  obtain ⟨o1, o2, o3, o4, o5⟩ := h2.open
  have ln := inv.ok.len
  have hle := h1.len
  obtain ⟨L, hL⟩ : ∃ L, L = l.length := ⟨_, rfl⟩
  rw [← hL] at o1 o3 hle
  rw [← hle] at ln
  have HZ := Lib.hid (fun j (hj : j < L) => h1.zero inv j (by rw [← hL]; exact hj))
  have O8 := Lib.hid o3
  have HL := Lib.hid hle
  clear h1 h2 h3 h4 h6 o2 o3 o4 o5 hL inv hle
  go_enter Try.func28, Try.ntmps28
  go_wp2_with fail
  go_loopw [3, 4] (fun v i wr => ∃ (k : Nat) (rs : List Nat), k ≤ L ∧ i = .int .i64 k ∧ Row wr 3 1 v rs (freeTo s k).length (ints .i64 (freeTo s k)) ∧ Ch [] w wr ∧ (∀ q ∈ rs, w.heap.size ≤ q ∧ q < wr.heap.size)) (fun _ i _ => L - (intOf i).toNat)
  case atStart => exact ⟨0, [], by omega, rfl, Row.nil _ _ _ _, Ch.refl _ _, fun q hq => by cases hq⟩
  case round =>
    obtain ⟨k, rs, hk, rfl, hrow, hch, hrs⟩ := hrel
    have HR := Lib.hid hrow
    have HC := Lib.hid hch
    have HS := Lib.hid hrs
    have o1' := hch.cell o1 (by simp)
    by_cases hlt : k < L
    · have c0 := hch.cell (O8.out k hlt) (by simp)
      have hle := freeTo_le s k
      obtain ⟨ao', cap', rfl, _⟩ := hrow.rd
      have hltI : (k : Int) < L := by omega
      have HZK := Lib.hid (HZ.out k hlt)
      clear hrow hch hrs o1
      generalize hm : (freeTo s k).length = m at *
      have HM := Lib.hid hm
      clear hm
      generalize l.getD k 0 = u at *
      by_cases h0 : u = 0
      · have hcs := HZK.out.1 h0
        have ef := Lib.hid (freeTo_hit hcs)
        have h0' : (u == 0) = true := by simpa using h0
        have R1 := Lib.hid (HR.out.ch ((Ch.refl [] wr).alloc (Obj.cells #[.int .i64 k] 3)) (by simp))
        have HN1 := Lib.hid (newL (w := wr) (b := wr.heap.size) rfl [.int .i64 k] 3)
        clear h0 hcs
        go_wp2_with (at_builtin; refine wpList_append_row _ rfl _ _ 65 rfl 3 i0 (.int .i64 0) 1 8 Try.underlying65 hi hz0 hz1 hz2 rfl (by decide) rfl R1.out ⟨wr.heap.size, 0, none⟩ 1 1 [.int .i64 k] rfl rfl HN1.out (one1 _ _) (by unfold maxLen; omega) (by omega) ?_)
        intro v' w1 qs' hr4 hc4 hq4
        have hq5 : News rs qs' (wr.alloc (Obj.cells #[.int .i64 k] 3)) w1 := by unfold News; simpa using hq4
        have HR4 := Lib.hid hr4
        have HC4 := Lib.hid hc4
        have HQ4 := Lib.hid hq5
        clear hr4 hc4 hq4 hq5
        go_wp2_with fail
        go_roundw
        case rel =>
          have CA : Ch [] wr (wr.alloc (Obj.cells #[.int .i64 k] 3)) := (Ch.refl _ _).alloc _
          have hs1 := HC.out.size
          have hs2 := CA.size
          have hs3 := HC4.out.size
          refine ⟨k + 1, qs', by omega, by go_num, ?_, (HC.out.trans' CA).trans HC4.out (fun x hx => .inr (HS.out x hx).1), fun q hq => ?_⟩
          · rw [ef.out, List.length_append, HM.out]
            have := HR4.out
            simp only [ints, List.map_append, List.map_cons, List.map_nil] at this ⊢
            exact this
          · rcases HQ4.out.mem hq with h | h
            · have := HS.out q h; omega
            · simp at h; omega
        case measure => simp [intOf]; omega
      · have hcs : (s.cs.getD k 0 == 0) = false := by
          have : s.cs.getD k 0 ≠ 0 := fun e => h0 (HZK.out.2 e)
          simpa using this
        have ef := Lib.hid (freeTo_miss hcs)
        have h0' : (u == 0) = false := by simpa using h0
        clear h0 hcs
        go_wp2_with fail
        go_roundw
        case rel => exact ⟨k + 1, rs, by omega, by go_num, by rw [ef.out, HM.out]; exact HR.out, HC.out, HS.out⟩
        case measure => simp [intOf]; omega
    · obtain rfl : L = k := by omega
      obtain ⟨ao', cap', rfl, _⟩ := hrow.rd
      clear hrow hch hrs o1
      generalize hm : (freeTo s L).length = m at *
      have HM := Lib.hid hm
      clear hm
      go_wp2_with fail
      go_ret
      have e : freeTo s L = freeL s := by rw [HL.out]; rfl
      have h := HR.out
      have hm := HM.out
      rw [e] at h hm
      rw [← hm] at h
      exact ⟨_, rs, by rw [← hm]; rfl, h, HC.out, HS.out⟩

def FinK (w : World) (s : St) (fr cy : Int) (v u : Value) (k : Nat) (rs ts : List Nat) (wr : World) : Prop :=
  Row wr 3 1 v rs (finK s fr cy k).length (ints .i64 (finK s fr cy k)) ∧ Row wr 101 2 u ts (restK s fr cy k).length (wcells (restK s fr cy k)) ∧ Ch [] w wr ∧
  (∀ q ∈ rs, w.heap.size ≤ q ∧ q < wr.heap.size) ∧ (∀ q ∈ ts, w.heap.size ≤ q ∧ q < wr.heap.size) ∧ (∀ q ∈ rs, q ∉ ts)
set_option maxHeartbeats 4000000 in
theorem Finish_any (w : World) (p c : Nat) (qs : List Nat) (s : St) (cy fr : Int) (h : Rs w p c qs s) (inv : Inv s) :
    Calls Try.prog 25 #[.pointer (some ⟨p, 0, none⟩), .int .i64 cy, .int .i64 fr] w fun e w' => ∃ v rs qs', e = .returned v ∧ Row w' 3 1 v rs (finishL s cy fr).length (ints .i64 (finishL s cy fr)) ∧
      Rs w' p c qs' (finish s cy fr) ∧ Ch [p] w w' ∧ (∀ q ∈ rs, w.heap.size ≤ q ∧ q < w'.heap.size ∧ q ∉ qs') ∧ (∀ q ∈ qs', w.heap.size ≤ q) := by
  obtain ⟨i0, hi0, hz0, hz1, hz2⟩ := info_parts info3
  obtain ⟨i1, hi1, hy0, hy1, hy2⟩ := info_parts infoW
  obtain ⟨⟨l, qv, h1, h2, h3⟩, h4⟩ := h
  obtain ⟨ao, cap, rfl, k1, k2, h6⟩ := h3.rd
  obtain ⟨o1, o2, o3, o4, o5⟩ := h2.open
  obtain ⟨hxl, b, off, hao, hcx⟩ := rd_wait h6
  have hne := h2.ne
  have hpl := lt_of h2.blk
  have hcl := lt_of h2.cel
  have hql := inv.ok.ql
  have HFA := Lib.hid (finK_all s fr cy)
  have HKP := Lib.hid (fun (j : Nat) (hj : j < s.q.length) (hk : keepX fr cy (s.q.getD j (0, 0)) = true) => restK_keep hj hk)
  have HKO := Lib.hid (fun (j : Nat) (hj : j < s.q.length) (hk : keepX fr cy (s.q.getD j (0, 0)) = false) => restK_out hj hk)
  obtain ⟨N, hN⟩ : ∃ N, N = s.q.length := ⟨_, rfl⟩
  rw [← hN] at o2 hql hao hcx
  have f10 := o4 1
  have HA := Lib.hid hao
  have HC := Lib.hid hcx
  have HN := Lib.hid hN
  have H1 := Lib.hid h1
  have H2 := Lib.hid h2
  clear h1 h2 h3 h4 h6 o1 o3 o4 o5 hao hcx hN hxl inv
  go_enter Try.func25, Try.ntmps25
  go_wp2_with fail
  go_loopw [7, 8, 9] (fun v u i wr => ∃ (j : Nat) (rs ts : List Nat), j ≤ N ∧ i = .int .i64 j ∧ FinK w s fr cy v u j rs ts wr) (fun _ _ i _ => N - (intOf i).toNat)
  case atStart => exact ⟨0, [], [], by omega, rfl, Row.nil _ _ _ _, Row.nil _ _ _ _, Ch.refl _ _, (fun q hq => by cases hq), (fun q hq => by cases hq), (fun q hq => by cases hq)⟩
  case round =>
    obtain ⟨j, rs, ts, hj, rfl, hf, hrow, hch, hrs, hts, hdis⟩ := hrel
    have HF := Lib.hid hf
    have HR := Lib.hid hrow
    have HCH := Lib.hid hch
    have HS := Lib.hid hrs
    have HT := Lib.hid hts
    have HD := Lib.hid hdis
    have o2' := hch.cell o2 (by simp)
    have f10' := (hch.frozen (p := ⟨p, 1, none⟩) hpl (by simp)).trans f10
    obtain ⟨ao1, cap1, rfl, _⟩ := hf.rd
    obtain ⟨ao2, cap2, rfl, _⟩ := hrow.rd
    have hle := restK_le s fr cy j
    by_cases hlt : j < N
    · obtain rfl := HA.out (by omega)
      obtain ⟨c1, c2⟩ := HC.out j hlt
      have d1 := hch.cell c1 (by simp)
      have d2 := hch.cell c2 (by simp)
      have P1 := Lib.hid (HKP.out j (by rw [← HN.out]; exact hlt))
      have P2 := Lib.hid (HKO.out j (by rw [← HN.out]; exact hlt))
      clear hf hrow hch hrs hts hdis c1 c2 o2 f10
      generalize s.q.getD j (0, 0) = x at *
      obtain ⟨x1, x2⟩ := x
      simp only at d1 d2
      generalize hnn : (finK s fr cy j).length = nn at *
      generalize hm : (restK s fr cy j).length = m at *
      have HM := Lib.hid hm
      have HNN := Lib.hid hnn
      clear hm hnn
      have ltI : (j : Int) < N := by omega
      by_cases hkx : keepX fr cy (x1, x2) = true
      · have e := P1.out hkx
        have E1 := Lib.hid e
        have R1 := Lib.hid (HR.out.ch ((Ch.refl [] wr).alloc (.cells #[.int .i64 x1, .int .i64 x2] 101)) (by simp))
        have HN1 := Lib.hid (newL (w := wr) (b := wr.heap.size) rfl [.int .i64 x1, .int .i64 x2] 101)
        have hk2 : fr ≠ 0 ∨ (fr = 0 ∧ cy ≤ x2) := by
          unfold keepX at hkx
          simp at hkx
          by_cases h : fr = 0
          · right; exact ⟨h, by rcases hkx with h' | h'; exact absurd h h'; exact h'⟩
          · exact .inl h
        clear e hkx P1 P2
        rcases hk2 with hf | ⟨hf, hx⟩
        · have hf' : (fr == 0) = false := by simpa using hf
          clear hf
          go_wp2_with (at_builtin; refine wpList_append_row _ rfl (.tmp 44) (.tmp 52) 60 rfl 101 i1 (.agg #[.int .i64 0, .int .i64 0]) 2 16 Try.underlying60 hi1 hy0 hy1 hy2 rfl (by decide) rfl R1.out ⟨wr.heap.size, 0, none⟩ 1 1 [.int .i64 x1, .int .i64 x2] rfl rfl HN1.out (one2 _ _ _ _) (by unfold maxLen; omega) (by omega) ?_)
          intro v' w2 qs' hr4 hc4 hq4
          have hq5 : News ts qs' (wr.alloc (.cells #[.int .i64 x1, .int .i64 x2] 101)) w2 := by unfold News; simpa using hq4
          have HR4 := Lib.hid hr4
          have HC4 := Lib.hid hc4
          have HQ5 := Lib.hid hq5
          clear hr4 hc4 hq4 hq5
          go_wp2_with fail
          go_roundw
          case rel =>
            have CA : Ch [] wr (wr.alloc (.cells #[.int .i64 x1, .int .i64 x2] 101)) := (Ch.refl _ _).alloc _
            have hs1 := HCH.out.size
            have hs2 := CA.size
            have hs3 := HC4.out.size
            refine ⟨j + 1, rs, qs', by omega, by go_num, ?_, ?_, (HCH.out.trans' CA).trans HC4.out (fun x hx => .inr (HT.out x hx).1), fun q hq => ⟨(HS.out q hq).1, by have := (HS.out q hq).2; omega⟩, fun q hq => ?_, fun q hq hm => ?_⟩
            · rw [E1.out.2, HNN.out]; exact (HF.out.ch CA (by simp)).ch HC4.out (fun q hq hm => HD.out q hq hm)
            · rw [E1.out.1, List.length_append, HM.out, wcells_append]; exact HR4.out
            · rcases HQ5.out.mem hq with h | h
              · have := HT.out q h; omega
              · simp at h; omega
            · rcases HQ5.out.mem hm with h | h
              · exact HD.out q hq h
              · have := (HS.out q hq).2; simp at h; omega
          case measure => simp [intOf]; omega
        · subst hf
          have hx' : decide (x2 < cy) = false := by simp; omega
          go_wp2_with (at_builtin; refine wpList_append_row _ rfl (.tmp 44) (.tmp 52) 60 rfl 101 i1 (.agg #[.int .i64 0, .int .i64 0]) 2 16 Try.underlying60 hi1 hy0 hy1 hy2 rfl (by decide) rfl R1.out ⟨wr.heap.size, 0, none⟩ 1 1 [.int .i64 x1, .int .i64 x2] rfl rfl HN1.out (one2 _ _ _ _) (by unfold maxLen; omega) (by omega) ?_)
          intro v' w2 qs' hr4 hc4 hq4
          have hq5 : News ts qs' (wr.alloc (.cells #[.int .i64 x1, .int .i64 x2] 101)) w2 := by unfold News; simpa using hq4
          have HR4 := Lib.hid hr4
          have HC4 := Lib.hid hc4
          have HQ5 := Lib.hid hq5
          clear hr4 hc4 hq4 hq5
          go_wp2_with fail
          go_roundw
          case rel =>
            have CA : Ch [] wr (wr.alloc (.cells #[.int .i64 x1, .int .i64 x2] 101)) := (Ch.refl _ _).alloc _
            have hs1 := HCH.out.size
            have hs2 := CA.size
            have hs3 := HC4.out.size
            refine ⟨j + 1, rs, qs', by omega, by go_num, ?_, ?_, (HCH.out.trans' CA).trans HC4.out (fun x hx => .inr (HT.out x hx).1), fun q hq => ⟨(HS.out q hq).1, by have := (HS.out q hq).2; omega⟩, fun q hq => ?_, fun q hq hm => ?_⟩
            · rw [E1.out.2, HNN.out]; exact (HF.out.ch CA (by simp)).ch HC4.out (fun q hq hm => HD.out q hq hm)
            · rw [E1.out.1, List.length_append, HM.out, wcells_append]; exact HR4.out
            · rcases HQ5.out.mem hq with h | h
              · have := HT.out q h; omega
              · simp at h; omega
            · rcases HQ5.out.mem hm with h | h
              · exact HD.out q hq h
              · have := (HS.out q hq).2; simp at h; omega
          case measure => simp [intOf]; omega
      · have hkx' : keepX fr cy (x1, x2) = false := by simpa using hkx
        have E1 := Lib.hid (P2.out hkx')
        have hk2 : fr = 0 ∧ x2 < cy := by
          unfold keepX at hkx'
          simp at hkx'
          exact ⟨by omega, by omega⟩
        obtain ⟨rfl, hx⟩ := hk2
        have hx' : decide (x2 < cy) = true := by simp; omega
        have R1 := Lib.hid (HF.out.ch ((Ch.refl [] wr).alloc (.cells #[.int .i64 x1] 3)) (by simp))
        have HN1 := Lib.hid (newL (w := wr) (b := wr.heap.size) rfl [.int .i64 x1] 3)
        clear hkx hkx' P1 P2
        go_wp2_with (at_builtin; refine wpList_append_row _ rfl (.tmp 33) (.tmp 42) 65 rfl 3 i0 (.int .i64 0) 1 8 Try.underlying65 hi0 hz0 hz1 hz2 rfl (by decide) rfl R1.out ⟨wr.heap.size, 0, none⟩ 1 1 [.int .i64 x1] rfl rfl HN1.out (one1 _ _) (by unfold maxLen; omega) (by omega) ?_)
        intro v' w2 qs' hr4 hc4 hq4
        have hq5 : News rs qs' (wr.alloc (.cells #[.int .i64 x1] 3)) w2 := by unfold News; simpa using hq4
        have HR4 := Lib.hid hr4
        have HC4 := Lib.hid hc4
        have HQ5 := Lib.hid hq5
        clear hr4 hc4 hq4 hq5
        go_wp2_with fail
        go_roundw
        case rel =>
          have CA : Ch [] wr (wr.alloc (.cells #[.int .i64 x1] 3)) := (Ch.refl _ _).alloc _
          have hs1 := HCH.out.size
          have hs2 := CA.size
          have hs3 := HC4.out.size
          refine ⟨j + 1, qs', ts, by omega, by go_num, ?_, ?_, (HCH.out.trans' CA).trans HC4.out (fun x hx => .inr (HS.out x hx).1), fun q hq => ?_, fun q hq => ⟨(HT.out q hq).1, by have := (HT.out q hq).2; omega⟩, fun q hq hm => ?_⟩
          · rw [E1.out.2, List.length_append, HNN.out]
            have := HR4.out
            simp only [ints, List.map_append, List.map_cons, List.map_nil] at this ⊢
            exact this
          · rw [E1.out.1, HM.out]; exact (HR.out.ch CA (by simp)).ch HC4.out (fun q hq hm => HD.out q hm hq)
          · rcases HQ5.out.mem hq with h | h
            · have := HS.out q h; omega
            · simp at h; omega
          · rcases HQ5.out.mem hq with h | h
            · exact HD.out q h hm
            · have := (HT.out q hm).2; simp at h; omega
        case measure => simp [intOf]; omega
    · obtain rfl : N = j := by omega
      have e := HFA.out
      rw [← HN.out] at e
      have E := Lib.hid e
      clear hf hrow hch hrs hts hdis o2 f10 e
      generalize hnn : (finK s fr cy N).length = nn at *
      generalize hm : (restK s fr cy N).length = m at *
      have HM := Lib.hid hm
      have HNN := Lib.hid hnn
      clear hm hnn
      go_wp2_with fail
      go_ret
      have e1 := E.out.1
      have e2 := E.out.2
      have hfr := HF.out
      rw [← e1, ← e2]
      rw [← HNN.out] at hfr
      refine ⟨_, rs, ts, by rw [← HNN.out]; rfl, hfr.keep (fun q hq o ho => (heap_set_ne (show q ≠ p by have := (HS.out q hq).1; omega)).trans ho), Rs.mk' (H1.out.q _) ((H2.out.ch HCH.out (by simp) (by simp)).setQ _) ?_ (fun q hq => ?_), (HCH.out.mono (by simp)).setCell _ _ (.inl (by simp)), fun q hq => ?_, fun q hq => (HT.out q hq).1⟩
      · simp only
        rw [HM.out]
        exact HR.out.keep (fun q hq o ho => (heap_set_ne (show q ≠ p by have := (HT.out q hq).1; omega)).trans ho)
      · have := HT.out q hq; have hs := HCH.out.size; simp [World.setCell]; omega
      · have := HS.out q hq; exact ⟨this.1, by simpa [World.setCell] using this.2, HD.out q hq⟩
end Go.Proofs.Ytdncodandmjknaa.R12
