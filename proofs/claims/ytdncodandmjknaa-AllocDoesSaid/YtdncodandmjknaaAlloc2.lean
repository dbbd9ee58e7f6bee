/-
  THE WALKS of package alloc, on: Ask, whole; Back.
-/
import Derived.Test.YtdncodandmjknaaAlloc
set_option linter.unusedVariables false
set_option linter.unusedSimpArgs false
set_option maxRecDepth 100000
namespace Go.Proofs.Ytdncodandmjknaa.Al
open Go.RowKit Go.Proofs.Ytdncodandmjknaa.Hp Go.Proofs.Ytdncodandmjknaa.Sm Go.Proofs.Ytdncodandmjknaa.Ap

set_option maxHeartbeats 400000 in
theorem Ask_free (w : World) (p c : Nat) (qs : List Nat) (s : St) (t : Nat) (b : Int) (F : Nat) (h : Is w p c qs s) (h1 : 1 ≤ t) (h8 : t ≤ 8) (hw : Ap.waits s t = false) (hG : s.gs.getD t 0 = 0) (hF : idx 0 s.cs = F) :
    Calls Try.prog 19 #[.pointer (some ⟨p, 0, none⟩), .int .i64 t, .int .i64 b] w fun e w' => e = .returned (.tuple #[.int .i64 F, .bool true, .int .i64 0]) ∧
      Is w' p c qs { s with cs := s.cs.set F 1 } ∧ Ch [p, c] w w' := by
  have H := waits_any w p c qs s t h
  rw [hw] at H
  have ln := h.ok.len
  have ir := idx_range 0 s.cs
  rw [hF] at ir
  clear hw
  go_enter Try.func19, Try.ntmps19
  go_wp2_with fail
  refine H.mono ?_; rintro e w2 ⟨rfl, hw2⟩
  have h2 := h.ch hw2 (by simp) (by simp) (by simp)
  have hW := Lib.hid hw2
  have HI := Lib.hid h2
  obtain ⟨ao, cap, o1, o2, o3, o4, o5, o6, o7, o8, o9, o10⟩ := h2.open
  have g1 := o7 t (by omega)
  rw [hG] at g1
  have rd : Rd w2 (some ⟨c, 0, none⟩) s.cs.length (ints .i64 s.cs) := ⟨by simp [ints], .inr ⟨c, 0, rfl, fun j hj => by rw [Nat.zero_add, o8 j hj, ints_get hj]⟩⟩
  have X := Index_any w2 _ _ s.cs.length s.cs 0 (Nat.le_refl _) (by unfold maxLen; omega) rd
  rw [hF] at X
  have f2 := o10 F
  have c2 := o8 F (by omega)
  generalize s.cs.getD F 0 = old at *
  obtain ⟨L, hL⟩ : ∃ L, L = s.cs.length := ⟨_, rfl⟩
  rw [← hL] at o1 ir ln X
  have HHL := Lib.hid hL
  clear hw2 h2 o2 o3 o4 o5 o6 o7 o8 o9 o10 H h hL hG hF rd
  go_wp2_with fail
  refine X.mono ?_; rintro e w3 ⟨rfl, hw3⟩; subst hw3
  go_wp2_with fail
  go_ret3
  have hl := HHL.out
  exact ⟨rfl, HI.out.setC F 1, (hW.out.mono (by simp)).setCell ⟨c, F, none⟩ _ (.inl (by simp))⟩

theorem infoW : (Try.prog.info? 101).map (fun i => (i.zero, i.size, i.bytes)) = some (some (.agg #[.int .i64 0, .int .i64 0]), 2, 16) := by kernel_rfl
set_option maxHeartbeats 400000 in
theorem Ask_queue (w : World) (p c : Nat) (qs : List Nat) (s : St) (t : Nat) (b : Int) (h : Is w p c qs s) (h1 : 1 ≤ t) (h8 : t ≤ 8) (hb : -9223372036854775808 ≤ b ∧ b ≤ 9223372036854775807) (hw : Ap.waits s t = false) (hG : s.gs.getD t 0 = 0) (hF : idx 0 s.cs = -1) :
    Calls Try.prog 19 #[.pointer (some ⟨p, 0, none⟩), .int .i64 t, .int .i64 b] w fun e w' => e = .returned (.tuple #[.int .i64 0, .bool false, .int .i64 0]) ∧
      ∃ qs', Is w' p c qs' { s with q := s.q ++ [((t : Int), b)] } ∧ Ch (p :: c :: qs) w w' ∧ (∀ q ∈ qs', q ∈ qs ∨ w.heap.size ≤ q) := by
  have H := waits_any w p c qs s t h
  have ok' := h.ok.addQ t b ⟨by omega, by omega⟩ hb hw
  rw [hw] at H
  have ln := h.ok.len
  clear hw
  obtain ⟨i0, hi, hz0, hz1, hz2⟩ := info_parts infoW
  go_enter Try.func19, Try.ntmps19
  go_wp2_with fail
  refine H.mono ?_; rintro e w2 ⟨rfl, hw2⟩
  have h2 := h.ch hw2 (by simp) (by simp) (by simp)
  have hW := Lib.hid hw2
  have HI := Lib.hid h2
  obtain ⟨ao, cap, o1, o2, o3, o4, o5, o6, o7, o8, o9, o10⟩ := h2.open
  have g1 := o7 t (by omega)
  rw [hG] at g1
  have rd : Rd w2 (some ⟨c, 0, none⟩) s.cs.length (ints .i64 s.cs) := ⟨by simp [ints], .inr ⟨c, 0, rfl, fun j hj => by rw [Nat.zero_add, o8 j hj, ints_get hj]⟩⟩
  have X := Index_any w2 _ _ s.cs.length s.cs 0 (Nat.le_refl _) (by unfold maxLen; omega) rd
  rw [hF] at X
  have hq8 := h2.ok.ql
  have hpl : p < w2.heap.size := World.block_lt_of_cell? w2 _ o2
  have hpf := o9 10
  have RW := Lib.hid o3
  have OK := Lib.hid ok'
  have HH := Lib.hid h
  clear hw2 h2 o3 o4 o5 o6 o7 o8 o9 o10 H h hG hF rd ok'
  generalize hn : s.q.length = n at *
  have HN := Lib.hid hn
  clear hn
  go_wp2_with fail
  refine X.mono ?_; rintro e w3 ⟨rfl, hw3⟩; subst hw3
  have R1 := RW.out.ch ((Ch.refl [] w3).alloc (Obj.cells #[.int .i64 t, .int .i64 b] 101)) (by simp)
  have HR1 := Lib.hid R1
  have hqn := HI.out.qne
  have HQ := Lib.hid hqn
  have o2' := ((Ch.refl [] w3).alloc (Obj.cells #[.int .i64 t, .int .i64 b] 101)).cell o2 (by simp)
  have hpf' := (((Ch.refl [] w3).alloc (Obj.cells #[.int .i64 t, .int .i64 b] 101)).frozen (p := ⟨p, 10, none⟩) hpl (by simp)).trans hpf
  have HO2 := Lib.hid o2'
  have HPF := Lib.hid hpf'
  clear R1 hqn o2' hpf'
  go_wp2_with (at_builtin; refine wpList_append_row _ rfl _ _ 60 rfl 101 i0 (.agg #[.int .i64 0, .int .i64 0]) 2 16 Try.underlying60 hi hz0 hz1 hz2 rfl (by decide) rfl HR1.out ⟨w3.heap.size, 0, none⟩ 1 1 [.int .i64 t, .int .i64 b] rfl rfl ?c1 ?c2 (by unfold maxLen; omega) (by omega) ?_)
  case c1 =>
    intro j u hj
    match j, hj with
    | 0, hj => simp at hj; subst hj; simp [Addr.add]
    | 1, hj => simp at hj; subst hj; simp [Addr.add]
  case c2 => intro u hu; simp at hu; rcases hu with rfl | rfl <;> rfl
  intro v' w4 qs' hr4 hc4 hq4
  have hpq : p ∉ qs := fun hm => (HQ.out p hm).1 rfl
  have o5 := hc4.cell HO2.out hpq
  have f5 := (hc4.frozen (p := ⟨p, 10, none⟩) (by simp; omega) hpq).trans HPF.out
  obtain ⟨ao', cap', rfl, _⟩ := hr4.rd
  have HR4 := Lib.hid hr4
  have HC4 := Lib.hid hc4
  have HQ4 := Lib.hid hq4
  clear hr4 hc4 hq4 hpq
  go_wp2_with fail
  go_ret3
  have C3 : Ch [] w w3 := hW.out
  have hsz := C3.size
  have CA : Ch [] w3 (w3.alloc (Obj.cells #[.int .i64 t, .int .i64 b] 101)) := (Ch.refl [] w3).alloc _
  have hsa : (w3.alloc (Obj.cells #[.int .i64 t, .int .i64 b] 101)).heap.size = w3.heap.size + 1 := by simp
  have CQ : Ch qs w w4 := ((C3.trans' CA).mono (by simp)).trans' HC4.out
  have hlt := HI.out.lt
  obtain ⟨qv, hd, _⟩ := HI.out.hd
  have hqn := HQ.out
  have hs4 := HC4.out.size
  have hd4 := (hd.ch CA (by simp) (by simp)).ch HC4.out (fun hm => (hqn p hm).1 rfl) (fun hm => (hqn c hm).2.1 rfl)
  have ew : wcells (s.q ++ [((t : Int), b)]) = wcells s.q ++ [.int .i64 t, .int .i64 b] := by simp [wcells]
  have el : (s.q ++ [((t : Int), b)]).length = n + 1 := by rw [List.length_append, HN.out]; rfl
  have hr : Row w4 101 2 (.slice ao' (n + 1) cap') qs' (s.q ++ [((t : Int), b)]).length (wcells (s.q ++ [((t : Int), b)])) := by rw [ew, el]; exact HR4.out
  have hq' : ∀ q ∈ qs', q ≠ p ∧ q ≠ c ∧ q < w4.heap.size := by
    intro q hm
    rcases HQ4.out with e | ⟨q', e, h3, h4⟩
    · rw [e] at hm; have := hqn q hm; exact ⟨this.1, this.2.1, by omega⟩
    · rw [e] at hm; simp at hm; subst hm; exact ⟨by omega, by omega, h4⟩
  refine ⟨rfl, qs', Is.mkQ hd4 _ _ hr hq' OK.out, (CQ.mono (fun x hx => by simp [hx])).setCell ⟨p, 10, none⟩ _ (.inl (by simp)), fun q hm => ?_⟩
  rcases HQ4.out with e | ⟨q', e, h3, h4⟩
  · left; rw [← e]; exact hm
  · right; rw [e] at hm; simp at hm; subst hm; omega
theorem gift_at {s : St} (h : Ok s) (t : Nat) (ht : t < 9) : s.gs.getD t 0 = 0 ∨ ∃ G : Nat, s.gs.getD t 0 = (G : Int) ∧ 1 ≤ G := by
  have := h.gift t ht
  rcases Int.lt_or_le 0 (s.gs.getD t 0) with h1 | h1
  · right; exact ⟨(s.gs.getD t 0).toNat, by omega, by omega⟩
  · left; omega
/-- ASK, of whatever thread. -/
theorem Ask_any (w : World) (p c : Nat) (qs : List Nat) (s : St) (t b : Int) (h : Is w p c qs s) (hb : -9223372036854775808 ≤ b ∧ b ≤ 9223372036854775807) :
    Calls Try.prog 19 #[.pointer (some ⟨p, 0, none⟩), .int .i64 t, .int .i64 b] w fun e w' => e = .returned (.tuple #[.int .i64 (askCell s t), .bool (askGot s t), .int .i64 (askErr s t)]) ∧
      ∃ qs', Is w' p c qs' (Ap.ask s t b) ∧ Ch (p :: c :: qs) w w' ∧ (∀ q ∈ qs', q ∈ qs ∨ w.heap.size ≤ q) := by
  have hqp : ∀ q ∈ qs, q ∈ qs ∨ w.heap.size ≤ q := fun q hq => .inl hq
  by_cases ht : t < 1 ∨ 8 < t
  · have e : badT s t = true := by unfold badT; simp; omega
    simp only [askCell, askGot, askErr, Ap.ask, e, if_true]
    exact (Ask_no w p c qs s t b h ht).mono fun e w' ⟨h1, h2⟩ => ⟨h1, qs, h2 ▸ h, h2 ▸ Ch.refl _ _, hqp⟩
  · obtain ⟨t, rfl⟩ := Int.eq_ofNat_of_zero_le (show 0 ≤ t by omega)
    cases hw : Ap.waits s t
    · have e : badT s t = false := by unfold badT; rw [hw]; simp; omega
      have eg : Ap.gift s t = s.gs.getD t 0 := rfl
      rcases gift_at h.ok t (by omega) with hG | ⟨G, hG, hg⟩
      · rcases idx_range 0 s.cs with hF | hF
        · have e2 : askCell s t = 0 ∧ askGot s t = false ∧ askErr s t = 0 ∧ Ap.ask s t b = { s with q := s.q ++ [((t : Int), b)] } := by simp [askCell, askGot, askErr, Ap.ask, e, (eg.trans hG), hF]
          rw [e2.1, e2.2.1, e2.2.2.1, e2.2.2.2]
          exact Ask_queue w p c qs s t b h (by omega) (by omega) hb hw hG hF
        · obtain ⟨F, hF'⟩ := Int.eq_ofNat_of_zero_le hF.1
          have e2 : askCell s t = F ∧ askGot s t = true ∧ askErr s t = 0 ∧ Ap.ask s t b = { s with cs := s.cs.set F 1 } := by simp [askCell, askGot, askErr, Ap.ask, e, (eg.trans hG), hF']
          rw [e2.1, e2.2.1, e2.2.2.1, e2.2.2.2]
          exact (Ask_free w p c qs s t b F h (by omega) (by omega) hw hG hF').mono fun e w' ⟨h1, h2, h3⟩ => ⟨h1, qs, h2, h3.mono (by simp), hqp⟩
      · have hp : 0 < G := hg
        have hp2 : ¬ G = 0 := by omega
        have e2 : askCell s t = (G : Int) - 1 ∧ askGot s t = true ∧ askErr s t = 0 ∧ Ap.ask s t b = { s with gs := s.gs.set t 0, cs := s.cs.set (G - 1) 1 } := by
          have : ((G : Int) - 1).toNat = G - 1 := by omega
          simp [askCell, askGot, askErr, Ap.ask, e, (eg.trans hG), hp, hp2, this]
        rw [e2.1, e2.2.1, e2.2.2.1, e2.2.2.2]
        exact (Ask_gift w p c qs s t b G h (by omega) (by omega) hw hG hg).mono fun e w' ⟨h1, h2, h3⟩ => ⟨h1, qs, h2, h3.mono (by simp), hqp⟩
    · have e : badT s t = true := by unfold badT; simp [hw]
      simp only [askCell, askGot, askErr, Ap.ask, e, if_true]
      exact (Ask_waits w p c qs s t b h (by omega) (by omega) hw).mono fun e w' ⟨h1, h2⟩ => ⟨h1, qs, h.ch h2 (by simp) (by simp) (by simp), h2.mono (by simp), hqp⟩
end Go.Proofs.Ytdncodandmjknaa.Al
