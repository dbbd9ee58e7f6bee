/-
  THE KEEPER's calls: ends.
-/
import Derived.Test.YtdncodandmjknaaKeep3
set_option linter.unusedVariables false
set_option linter.unusedSimpArgs false
set_option maxRecDepth 100000
namespace Go.Proofs.Ytdncodandmjknaa.Kp
open Go.RowKit Go.Proofs.Ytdncodandmjknaa.Hp Go.Proofs.Ytdncodandmjknaa.Sm Go.Proofs.Ytdncodandmjknaa.Ap Go.Proofs.Ytdncodandmjknaa.Al

theorem Finish_mid {w0 w : World} {p c k kc : Nat} {s : St} (h : Jn w0 w p c k kc s) (cy fr : Int) :
    Calls Try.prog 24 #[.pointer (some ⟨p, 0, none⟩), .int .i64 cy, .int .i64 fr] w fun e w' => ∃ v rs, e = .returned v ∧ Row w' 3 1 v rs (finishL s cy fr).length (ints .i64 (finishL s cy fr)) ∧
      Mid w0 w' p c k kc s (finish s cy fr) ∧ (∀ q ∈ rs, w.heap.size ≤ q ∧ q < w'.heap.size) := by
  by_cases hf : fr = 0
  · subst hf
    obtain ⟨qs, ks, i1, i2, i3, i4, i5, i6⟩ := h
    refine (Finish_loop w p c qs s cy i1).mono fun e w' ⟨v, rs, qs', k1, k2, k3, k4, k5, k6⟩ => ⟨v, rs, k1, k2, ?_, fun q hq => ⟨(k5 q hq).1, (k5 q hq).2.1⟩⟩
    refine ⟨qs', ks, k3, i2.ch k4 (fun hm => ?_) (fun hm => ?_) (fun q hq hm => ?_), i3.trans k4 (fun x hx => .inr (i4 x ?_)), fun x hx => ?_, i5, fun x hx hm => ?_⟩
    · simp only [List.mem_singleton] at hm
      exact i6 p (by simp) (by simp [hm])
    · simp only [List.mem_singleton] at hm
      exact i6 p (by simp) (by simp [hm])
    · simp only [List.mem_singleton] at hm
      exact i6 p (by simp) (by rw [hm] at hq; simp [hq])
    · simp only [List.mem_singleton] at hx; subst hx; simp
    · rcases List.mem_cons.1 hx with rfl | hx
      · exact i4 _ (by simp)
      rcases List.mem_cons.1 hx with rfl | hx
      · exact i4 _ (by simp)
      · exact Nat.le_trans i3.size (k6 x hx)
    · have hlt : x < w.heap.size := by
        rcases List.mem_cons.1 hm with rfl | hm
        · exact i2.lt.1
        rcases List.mem_cons.1 hm with rfl | hm
        · exact i2.lt.2
        · exact (i2.qne x hm).2.2
      rcases List.mem_cons.1 hx with rfl | hx
      · exact i6 _ (by simp) hm
      rcases List.mem_cons.1 hx with rfl | hx
      · exact i6 _ (by simp) hm
      · have := k6 x hx; omega
  · have e1 : finishL s cy fr = [] := by unfold finishL; rw [if_neg hf]
    have e2 : finish s cy fr = s := by unfold finish; rw [if_neg hf]
    rw [e1, e2]
    obtain ⟨qs, ks, i1, i2, i3, i4, i5, i6⟩ := h
    refine (Finish_not w p c qs s cy fr i1 hf).mono fun e w' ⟨k1, k2⟩ => ⟨_, [], k1, Row.nil _ _ _ _, ?_, fun q hq => by cases hq⟩
    subst k2
    exact ⟨qs, ks, i1, i2, i3, i4, i5, i6⟩

def keepX (fr cy : Int) (x : Int × Int) : Bool := decide (fr ≠ 0) || !decide (x.2 < cy)
def restK (s : St) (fr cy : Int) (k : Nat) : List (Int × Int) := (s.q.take k).filter (keepX fr cy)
def finK (s : St) (fr cy : Int) (k : Nat) : List Int := ((s.q.take k).filter (fun x => !keepX fr cy x)).map (·.1)
theorem finK_all (s : St) (fr cy : Int) : finK s fr cy s.q.length = finishL s cy fr ∧ { s with q := restK s fr cy s.q.length } = finish s cy fr := by
  unfold finK restK finishL finish keepX
  rw [List.take_length]
  by_cases h : fr = 0
  · subst h; simp
  · have e : s.q.filter (fun _ => true) = s.q := List.filter_eq_self.2 (by simp)
    simp [h, e]
theorem restK_keep {s : St} {fr cy : Int} {k : Nat} (hk : k < s.q.length) (h : keepX fr cy (s.q.getD k (0, 0)) = true) : restK s fr cy (k + 1) = restK s fr cy k ++ [s.q.getD k (0, 0)] ∧ finK s fr cy (k + 1) = finK s fr cy k := by
  unfold restK finK
  rw [wcells_take_succ hk, List.filter_append, List.filter_append]
  simp only [List.filter_cons, List.filter_nil, h]
  simp
theorem restK_out {s : St} {fr cy : Int} {k : Nat} (hk : k < s.q.length) (h : keepX fr cy (s.q.getD k (0, 0)) = false) : restK s fr cy (k + 1) = restK s fr cy k ∧ finK s fr cy (k + 1) = finK s fr cy k ++ [(s.q.getD k (0, 0)).1] := by
  unfold restK finK
  rw [wcells_take_succ hk, List.filter_append, List.filter_append]
  simp only [List.filter_cons, List.filter_nil, h]
  simp
theorem finK_pre (s : St) (fr cy : Int) (k : Nat) : ∃ t, finishL s cy fr = finK s fr cy k ++ t := by
  rw [← (finK_all s fr cy).1]
  unfold finK
  rw [List.take_length]
  refine ⟨((s.q.drop k).filter (fun x => !keepX fr cy x)).map (·.1), ?_⟩
  rw [← List.map_append, ← List.filter_append, List.take_append_drop]
theorem finK_at {s : St} {fr cy : Int} {k : Nat} (hk : k < s.q.length) (h : keepX fr cy (s.q.getD k (0, 0)) = false) : (finK s fr cy k).length < (finishL s cy fr).length ∧ (finishL s cy fr).getD (finK s fr cy k).length 0 = (s.q.getD k (0, 0)).1 := by
  obtain ⟨t, ht⟩ := finK_pre s fr cy (k + 1)
  rw [(restK_out hk h).2] at ht
  rw [ht]
  constructor
  · simp
  · simp [List.getD_eq_getElem?_getD, List.getElem?_append]
theorem restK_le (s : St) (fr cy : Int) (k : Nat) : (restK s fr cy k).length ≤ k ∧ (finK s fr cy k).length ≤ k := by
  unfold restK finK
  rw [List.length_map]
  exact ⟨Nat.le_trans (List.length_filter_le _ _) (List.length_take_le _ _), Nat.le_trans (List.length_filter_le _ _) (List.length_take_le _ _)⟩

def EndR (w1 : World) (s : St) (fr cy : Int) (u : Value) (j : Nat) (ts : List Nat) (wr : World) : Prop :=
  Row wr 101 2 u ts (restK s fr cy j).length (wcells (restK s fr cy j)) ∧ Ch [] w1 wr ∧ (∀ q ∈ ts, w1.heap.size ≤ q ∧ q < wr.heap.size)
set_option maxHeartbeats 4000000 in
theorem ends_any {w0 w : World} {p c k kc : Nat} {s : St} (h : Jn w0 w p c k kc s) (inv : Inv s) (cy fr : Int) :
    Calls Try.prog 15 #[.pointer (some ⟨k, 0, none⟩), .pointer (some ⟨p, 0, none⟩), .int .i64 cy, .int .i64 fr] w fun e w' => e = .returned (.bool true) ∧ Jn w0 w' p c k kc (finish s cy fr) := by
  obtain ⟨i0, hi0, hz0, hz1, hz2⟩ := info_parts infoW
  have F := Finish_mid h cy fr
  have hql := inv.ok.ql
  clear h inv
  go_enter Try.func15, Try.ntmps15
  go_wp2_with fail
  refine F.mono ?_
  rintro e w1 ⟨v, rs, rfl, hrow, ⟨qs, ks, i1, i2, i3, i4, i5, i6⟩, hrs⟩
  obtain ⟨al, capl, rfl, _, _, hrd⟩ := hrow.rd
  obtain ⟨ao, cap, o1, o2, o3, o4, o5, o6, o7, o8, o9, o10⟩ := i2.open
  obtain ⟨hxl, b, off, hao, hcx⟩ := rd_wait o6
  obtain ⟨hll, hrc⟩ := rd_ints (by simpa using hrd)
  have fk := o9 10
  have hkl := i2.lt.1
  have hkk : k < w1.heap.size := hkl
  have hfa := finK_all s fr cy
  have HFA := Lib.hid hfa
  have hfat := fun (j : Nat) (hj : j < s.q.length) (hk : keepX fr cy (s.q.getD j (0, 0)) = false) => finK_at hj hk
  have hkp := fun (j : Nat) (hj : j < s.q.length) (hk : keepX fr cy (s.q.getD j (0, 0)) = true) => restK_keep hj hk
  have hko := fun (j : Nat) (hj : j < s.q.length) (hk : keepX fr cy (s.q.getD j (0, 0)) = false) => restK_out hj hk
  have HFAT := Lib.hid hfat
  have HKP := Lib.hid hkp
  have HKO := Lib.hid hko
  have hlle : (finishL s cy fr).length ≤ s.q.length := by rw [← hfa.1]; exact (restK_le s fr cy _).2
  obtain ⟨N, hN⟩ : ∃ N, N = s.q.length := ⟨_, rfl⟩
  rw [← hN] at o2 hql hao hcx hlle
  have HN := Lib.hid hN
  have HRD : Hid (∀ n, n < (finishL s cy fr).length → ∃ b off, al = some ⟨b, off, none⟩ ∧ w1.cell? ⟨b, off + n, none⟩ = some (.int .i64 ((finishL s cy fr).getD n 0))) := by
    intro n hn
    rcases hrc with h0 | ⟨b, off, ha, hc⟩
    · omega
    · exact ⟨b, off, ha, hc n hn⟩
  generalize hLL : (finishL s cy fr).length = LL at *
  have HLL := Lib.hid hLL
  have HA := Lib.hid hao
  have HC := Lib.hid hcx
  have I1 := Lib.hid i1
  have I2 := Lib.hid i2
  have I3 := Lib.hid i3
  have I4 := Lib.hid i4
  have I5 := Lib.hid i5
  have I6 := Lib.hid i6
  clear F i1 i2 i3 i4 i5 i6 o1 o3 o4 o5 o6 o7 o8 o9 o10 hao hcx hN hxl hrow hrs hrd hll hrc hfa hfat hkp hko hLL hkl
  go_wp2_with fail
  go_loopw [10, 11, 12] (fun u n i wr => ∃ (j : Nat) (ts : List Nat), j ≤ N ∧ i = .int .i64 j ∧ n = .int .i64 ((finK s fr cy j).length) ∧ EndR w1 s fr cy u j ts wr) (fun _ _ i _ => N - (intOf i).toNat)
  case atStart => exact ⟨0, [], by omega, rfl, rfl, Row.nil _ _ _ _, Ch.refl _ _, fun q hq => by cases hq⟩
  case round =>
    obtain ⟨j, ts, hj, rfl, rfl, hrow, hch, hts⟩ := hrel
    have HR := Lib.hid hrow
    have HCH := Lib.hid hch
    have HT := Lib.hid hts
    have o2' := hch.cell o2 (by simp)
    obtain ⟨ao2, cap2, rfl, _⟩ := hrow.rd
    have hle := restK_le s fr cy j
    by_cases hlt : j < N
    · obtain rfl := HA.out (by omega)
      obtain ⟨c1, c2⟩ := HC.out j hlt
      have d1 := hch.cell c1 (by simp)
      have d2 := hch.cell c2 (by simp)
      have P1 := Lib.hid (HKP.out j (by rw [← HN.out]; exact hlt))
      have P2 := Lib.hid (HKO.out j (by rw [← HN.out]; exact hlt))
      have P3 := Lib.hid (HFAT.out j (by rw [← HN.out]; exact hlt))
      clear hrow hch hts c1 c2
      generalize s.q.getD j (0, 0) = x at *
      obtain ⟨x1, x2⟩ := x
      simp only at d1 d2
      generalize hnn : (finK s fr cy j).length = nn at *
      generalize hm : (restK s fr cy j).length = m at *
      have HM := Lib.hid hm
      have HNN := Lib.hid hnn
      clear hm hnn
      have ltI : (j : Int) < N := by omega
      by_cases hkx : keepX fr cy (x1, x2) = true
      · have e := P1.out hkx
        have E1 := Lib.hid e
        have R1 := Lib.hid (HR.out.ch ((Ch.refl [] wr).alloc (.cells #[.int .i64 x1, .int .i64 x2] 101)) (by simp))
        have HN1 := Lib.hid (newL (w := wr) (b := wr.heap.size) rfl [.int .i64 x1, .int .i64 x2] 101)
        have hk2 : fr ≠ 0 ∨ (fr = 0 ∧ cy ≤ x2) := by
          unfold keepX at hkx
          simp at hkx
          by_cases h : fr = 0
          · right; exact ⟨h, by rcases hkx with h' | h'; exact absurd h h'; exact h'⟩
          · exact .inl h
        clear e hkx P1 P2 P3
        rcases hk2 with hf | ⟨hf, hx⟩
        · have hf' : (fr != 0) = true := by simpa using hf
          have hmN : m ≤ N := by omega
          go_wp2_with (at_builtin; refine wpList_append_row _ rfl _ _ 60 rfl 101 i0 (.agg #[.int .i64 0, .int .i64 0]) 2 16 Try.underlying60 hi0 hz0 hz1 hz2 rfl (by decide) rfl R1.out ⟨wr.heap.size, 0, none⟩ 1 1 [.int .i64 x1, .int .i64 x2] rfl rfl HN1.out (one2 _ _ _ _) (by unfold maxLen; omega) (by omega) ?_)
          intro v' w2 qs' hr4 hc4 hq4
          have hq5 : News ts qs' (wr.alloc (.cells #[.int .i64 x1, .int .i64 x2] 101)) w2 := by unfold News; simpa using hq4
          have HR4 := Lib.hid hr4
          have HC4 := Lib.hid hc4
          have HQ5 := Lib.hid hq5
          clear hr4 hc4 hq4 hq5
          go_wp2_with fail
          go_roundw
          case rel =>
            have CA : Ch [] wr (wr.alloc (.cells #[.int .i64 x1, .int .i64 x2] 101)) := (Ch.refl _ _).alloc _
            have hs1 := HCH.out.size
            have hs2 := CA.size
            have hs3 := HC4.out.size
            refine ⟨j + 1, qs', by omega, by go_num, by rw [E1.out.2, HNN.out], ?_, (HCH.out.trans' CA).trans HC4.out (fun x hx => .inr (HT.out x hx).1), fun q hq => ?_⟩
            · rw [E1.out.1, List.length_append, HM.out, wcells_append]; exact HR4.out
            · rcases HQ5.out.mem hq with h | h
              · have := HT.out q h; omega
              · simp at h; omega
          case measure => simp [intOf]; omega
        · subst hf
          have hx' : decide (cy ≤ x2) = true := by simpa using hx
          go_wp2_with (at_builtin; refine wpList_append_row _ rfl _ _ 60 rfl 101 i0 (.agg #[.int .i64 0, .int .i64 0]) 2 16 Try.underlying60 hi0 hz0 hz1 hz2 rfl (by decide) rfl R1.out ⟨wr.heap.size, 0, none⟩ 1 1 [.int .i64 x1, .int .i64 x2] rfl rfl HN1.out (one2 _ _ _ _) (by unfold maxLen; omega) (by omega) ?_)
          intro v' w2 qs' hr4 hc4 hq4
          have hq5 : News ts qs' (wr.alloc (.cells #[.int .i64 x1, .int .i64 x2] 101)) w2 := by unfold News; simpa using hq4
          have HR4 := Lib.hid hr4
          have HC4 := Lib.hid hc4
          have HQ5 := Lib.hid hq5
          clear hr4 hc4 hq4 hq5
          go_wp2_with fail
          go_roundw
          case rel =>
            have CA : Ch [] wr (wr.alloc (.cells #[.int .i64 x1, .int .i64 x2] 101)) := (Ch.refl _ _).alloc _
            have hs1 := HCH.out.size
            have hs2 := CA.size
            have hs3 := HC4.out.size
            refine ⟨j + 1, qs', by omega, by go_num, by rw [E1.out.2, HNN.out], ?_, (HCH.out.trans' CA).trans HC4.out (fun x hx => .inr (HT.out x hx).1), fun q hq => ?_⟩
            · rw [E1.out.1, List.length_append, HM.out, wcells_append]; exact HR4.out
            · rcases HQ5.out.mem hq with h | h
              · have := HT.out q h; omega
              · simp at h; omega
          case measure => simp [intOf]; omega
      · have hkx' : keepX fr cy (x1, x2) = false := by simpa using hkx
        have E1 := Lib.hid (P2.out hkx')
        obtain ⟨q1, q2⟩ := P3.out hkx'
        obtain ⟨bl, ofl, rfl, hcl⟩ := HRD.out nn q1
        have hcl' := HCH.out.cell hcl (by simp)
        rw [q2] at hcl'
        have hk2 : fr = 0 ∧ x2 < cy := by
          unfold keepX at hkx'
          simp at hkx'
          exact ⟨by omega, by omega⟩
        obtain ⟨rfl, hx⟩ := hk2
        have hx' : decide (cy ≤ x2) = false := by simp; omega
        have q1' : decide ((LL : Int) ≤ nn) = false := by simp; omega
        have q1I : (nn : Int) < LL := by omega
        clear hkx hkx' P1 P2 P3 q2 hcl
        go_wp2_with fail
        go_quiet (fail)
        go_wp2_with fail
        go_roundw
        case rel =>
          refine ⟨j + 1, ts, by omega, by go_num, by rw [E1.out.2, List.length_append, HNN.out]; rfl, ?_, HCH.out.drewN _, fun q hq => HT.out q hq⟩
          rw [E1.out.1, HM.out]
          exact HR.out.ch ((Ch.refl [] wr).drewN _) (by simp)
        case measure => simp [intOf]; omega
    · obtain rfl : j = N := by omega
      have fk' := (hch.frozen (p := ⟨k, 10, none⟩) hkk (by simp)).trans fk
      have e := HFA.out
      rw [← HN.out] at e
      have E := Lib.hid e
      have en : (finK s fr cy j).length = LL := by rw [e.1]; exact HLL.out
      clear hrow hch hts fk o2 e
      generalize hm : (restK s fr cy j).length = m at *
      have HM := Lib.hid hm
      rw [en]
      clear hm en
      go_wp2_with fail
      go_ret
      obtain ⟨⟨qv, hd, _⟩, hqne⟩ := I2.out
      have hd3 := hd.ch HCH.out (by simp) (by simp)
      have hk3 := I2.out.lt
      have hsz := HCH.out.size
      have hKs := Ks.mkQ hd3 (.slice ao2 m cap2) (restK s fr cy j) (by rw [HM.out]; exact HR.out) (fun q hq => by have := HT.out q hq; omega)
      rw [E.out.2] at hKs
      refine ⟨by simp, Mid.done I1.out I2.out I3.out I4.out I5.out I6.out ((HCH.out.mono (T := [k]) (by simp)).setCell ⟨k, 10, none⟩ _ (.inl (by simp))) (by simp) hKs (fun q hq => .inr (HT.out q hq).1)⟩
end Go.Proofs.Ytdncodandmjknaa.Kp
