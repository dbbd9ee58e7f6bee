/-
  THE DOCUMENT's ALLOCATOR, on: Back, Free.
-/
import Derived.Test.YtdncodandmjknaaRef12b
import Derived.StillTailTactics
set_option linter.unusedVariables false
set_option linter.unusedSimpArgs false
set_option maxRecDepth 100000
namespace Go.Proofs.Ytdncodandmjknaa.R12
open Go.RowKit Go.Proofs.Ytdncodandmjknaa.Hp Go.Proofs.Ytdncodandmjknaa.Sm Go.Proofs.Ytdncodandmjknaa.Ap Go.Proofs.Ytdncodandmjknaa.Al

def BackPost (w : World) (p c : Nat) (qs : List Nat) (s : St) (i : Int) (e : Ending) (w' : World) : Prop :=
  e = .returned (.tuple #[.int .i64 (backN s i), .int .i64 (backErr s i)]) ∧ Rs w' p c qs (Ap.back s i) ∧ Ch [p, c] w w'
theorem BackPost.bad {w : World} {p c : Nat} {qs : List Nat} {s : St} {i : Int} (h : Rs w p c qs s) (hb : badC s i = true) : BackPost w p c qs s i (.returned (.tuple #[.int .i64 0, .int .i64 120])) w :=
  ⟨by simp [backN, backErr, hb], by simp only [Ap.back, hb, if_true]; exact h, Ch.refl _ _⟩
set_option maxHeartbeats 2000000 in
theorem Back_any (w : World) (p c : Nat) (qs : List Nat) (s : St) (i : Int) (h : Rs w p c qs s) (inv : Inv s) :
    Calls Try.prog 23 #[.pointer (some ⟨p, 0, none⟩), .int .i64 i] w (BackPost w p c qs s i) := by
  have HPB := Lib.hid (fun hb => BackPost.bad (i := i) h hb)
  obtain ⟨⟨l, qv, h1, h2, h3⟩, h4⟩ := h
  obtain ⟨ao, cap, rfl, k1, k2, h6⟩ := h3.rd
  obtain ⟨o1, o2, o3, o4, o5⟩ := h2.open
  have ln := inv.ok.len
  have hle := h1.len
  have hq8 := inv.ok.ql
  obtain ⟨L, hL⟩ : ∃ L, L = l.length := ⟨_, rfl⟩
  rw [← hL] at o1 o3 hle
  rw [← hle] at ln
  by_cases hi0 : i < 0
  · have P := Lib.hid (HPB.out (by simp [badC, hi0]))
    clear h1 h2 h3 h4 o1 o2 o3 o4 o5 inv h6 HPB hL
    go_enter Try.func23, Try.ntmps23
    go_wp2_with fail
    go_ret2
    exact P.out
  obtain ⟨i, rfl⟩ := Int.eq_ofNat_of_zero_le (show 0 ≤ i by omega)
  by_cases hiL : L ≤ i
  · have P := Lib.hid (HPB.out (by simp [badC]; left; omega))
    clear h1 h2 h3 h4 o2 o3 o4 o5 inv h6 HPB hL hle
    go_enter Try.func23, Try.ntmps23
    go_wp2_with fail
    go_ret2
    exact P.out
  have c1 := o3 i (by omega)
  have f1 := o5 i
  have hltI : (i : Int) < L := by omega
  by_cases hv : l.getD i 0 = -1
  · have hcs := (h1.out inv i (by omega)).1 hv
    have hbd : badC s i = false := by
      have e1 : decide ((i : Int) < 0) = false := by simp
      have e2 : decide ((s.cs.length : Int) ≤ i) = false := by simp; omega
      have e3 : s.cs[i]?.getD 0 = 1 := by simpa [List.getD_eq_getElem?_getD] using hcs
      simp [badC, e1, e2, e3]; omega
    rw [hv] at c1
    have H1 := Lib.hid h1
    have H2 := Lib.hid h2
    have H3 := Lib.hid h3
    have H4 := Lib.hid h4
    have HINV := Lib.hid inv
    have HCS := Lib.hid hcs
    have HBD := Lib.hid hbd
    have hne := h2.ne
    have HLL := Lib.hid hL
    cases hq : s.q with
    | nil =>
      rw [hq] at o2
      have HQ := Lib.hid hq
      have e : Ap.back s i = { s with cs := s.cs.set i 0 } := by simp [Ap.back, hbd, hq]
      have E := Lib.hid e
      have EN := Lib.hid (show backN s i = 0 by simp [backN, hbd, hq])
      have EE := Lib.hid (show backErr s i = 0 by simp [backErr, hbd])
      clear h1 h2 h3 h4 o3 o4 o5 inv h6 HPB hL hq hv hcs hbd e
      simp only [List.length_nil] at o2
      go_enter Try.func23, Try.ntmps23
      go_wp2_with fail
      go_ret2
      refine ⟨by rw [EN.out, EE.out]; rfl, ?_, (Ch.refl _ _).setCell _ _ (.inl (by simp))⟩
      rw [E.out]
      exact Rs.mk' (H1.out.setC i 0 0 (.inl ⟨rfl, rfl⟩)) (H2.out.setC i 0) (H3.out.keep (fun q hq o ho => (heap_set_ne (H4.out q hq).2.1).trans ho)) (fun q hq => ⟨(H4.out q hq).1, (H4.out q hq).2.1, by simpa [World.setCell] using (H4.out q hq).2.2⟩)
    | cons x q' =>
      obtain ⟨t, b⟩ := x
      have ht := inv.ok.qt (t, b) (by rw [hq]; simp)
      have htg := inv.qg (t, b) (by rw [hq]; simp)
      simp only at ht htg
      obtain ⟨t, rfl⟩ := Int.eq_ofNat_of_zero_le (show 0 ≤ t by omega)
      rw [Int.toNat_natCast] at htg
      rw [hq] at o2 h6 h3 hq8 k1 h2
      obtain ⟨_, bq, off, ha, hcells⟩ := rd_wait h6
      obtain rfl := ha (by simp)
      obtain ⟨w1c, w2c⟩ := hcells 0 (by simp)
      simp only [List.getD_cons_zero, Nat.zero_mul, Nat.add_zero] at w1c w2c
      simp only [List.length_cons] at o2 h3 hq8 k1 h2
      obtain ⟨m, hm⟩ : ∃ m, m = q'.length := ⟨_, rfl⟩
      rw [← hm] at o2 h3 hq8 k1 h2
      have ew : wcells (((t : Int), b) :: q') = .int .i64 t :: .int .i64 b :: wcells q' := rfl
      rw [ew] at h3
      obtain ⟨t1, t2⟩ := Row.tail h3
      have bqn : bq ∈ qs := by
        obtain ⟨_, ao1, cap1, hv1, g1, g2, g3, g4⟩ := h3
        simp only [Value.slice.injEq, true_and] at hv1
        obtain ⟨rfl, rfl⟩ := hv1
        obtain ⟨q1, off1, arr1, hq1, ha1, _⟩ := g4.resolve_left (by omega)
        simp only [Option.some.injEq, Addr.mk.injEq, and_true] at ha1
        exact ha1.1 ▸ hq1
      have bqc := (h4 bq bqn).2.1
      have e : Ap.back s i = { cs := s.cs.set i 2, gs := s.gs.set t (i + 1), q := q' } := by simp [Ap.back, hbd, hq, Ap.first]
      have E := Lib.hid e
      have EN := Lib.hid (show backN s i = t by simp [backN, hbd, hq, Ap.first])
      have EE := Lib.hid (show backErr s i = 0 by simp [backErr, hbd])
      have HT1 := Lib.hid t1
      have HT2 := Lib.hid t2
      have HM := Lib.hid hm
      have HTG := Lib.hid htg
      have C0 : Ch [c] w (w.setCell ⟨c, i, none⟩ (.int .i64 0)) := (Ch.refl _ _).setCell _ _ (.inl (by simp))
      have p1 := C0.cell o1 (by simp; exact hne)
      have p2 := C0.cell o2 (by simp; exact hne)
      have p3 := C0.cell w1c (by simp; exact bqc)
      have p4 : (w.setCell ⟨c, i, none⟩ (.int .i64 0)).cell? ⟨c, i, none⟩ = some (.int .i64 0) := by go_simp
      have p5 : (w.setCell ⟨c, i, none⟩ (.int .i64 0)).frozen? ⟨c, i, none⟩ = false := by go_simp
      have p6 := (C0.frozen (p := ⟨p, 1, none⟩) (lt_of h2.blk) (by simp; exact hne)).trans (o4 1)
      have H2' := Lib.hid ((h2.setC i 0))
      unfold maxLen at k2
      rw [hq] at H3
      clear h1 h2 h3 h4 o3 o4 o5 inv h6 HPB hL hv hcs hbd e t1 t2 ha hcells ew w2c C0 htg hm hq
      go_enter Try.func23, Try.ntmps23
      go_wp2_with fail
      generalize hwa : w.setCell ⟨c, i, none⟩ (.int .i64 0) = wa at *
      have HWA := Lib.hid hwa
      clear hwa o1 o2 c1 f1 w1c
      refine wp_region_still_tail 13 (by kernel_rfl) (by kernel_rfl) ?_
      simp only [List.take_succ_cons, List.take_zero, List.drop_succ_cons, List.drop_zero]
      (iterate 13 still_step)
      refine wpStill_nil ?_
      change wpList _ _ _ _ _ wa.drew
      have P1 : wa.drew.cell? ⟨p, 0, none⟩ = some (.slice (some ⟨c, 0, none⟩) L L) := p1
      have P2 : wa.drew.cell? ⟨p, 1, none⟩ = some (.slice (some ⟨bq, off, none⟩) (m + 1) cap) := p2
      have P4 : wa.drew.cell? ⟨c, i, none⟩ = some (.int .i64 0) := p4
      have P5 : wa.drew.frozen? ⟨c, i, none⟩ = false := p5
      have P6 : wa.drew.frozen? ⟨p, 1, none⟩ = false := p6
      have CH0 : Hid (Ch [p, c] w wa.drew) := Lib.hid (by rw [← HWA.out]; exact ((Ch.refl _ _).setCell _ _ (.inl (by simp))).drew)
      have H2'' : Hid (RH wa.drew p c (l.set i 0) (.slice (some ⟨bq, off, none⟩) (m + 1) cap)) := Lib.hid (by
        exact H2'.out.ch (S := []) ((Ch.refl _ _).drew) (by simp) (by simp))
      have HSZ : Hid (w.heap.size ≤ wa.drew.heap.size) := Lib.hid CH0.out.size
      clear p1 p2 p3 p4 p5 p6
      generalize wa.drew = wd at *
      by_cases hc1 : cap = 1
      · subst hc1
        obtain rfl : m = 0 := by omega
        go_wp2_with fail
        go_ret2
        have hm := HM.out
        have hr : Row w 101 2 (.slice (some ⟨bq, off, none⟩) 0 0) qs q'.length (wcells q') := by rw [← hm]; exact HT1.out (by first | rfl | trivial)
        have hsz := HSZ.out
        refine ⟨by rw [EN.out, EE.out]; rfl, ?_, (CH0.out.setCell _ _ (.inl (by simp))).setCell _ _ (.inl (by simp))⟩
        rw [E.out]
        have h2 := (H2''.out.setC i t).setQ (.slice (some ⟨bq, off, none⟩) 0 0)
        rw [List.set_set] at h2
        refine Rs.mk' (H1.out.give HINV.out i t (by have := HLL.out; omega) HCS.out ⟨by omega, by omega⟩ HTG.out q') h2 ?_ (fun q hq => ⟨(H4.out q hq).1, (H4.out q hq).2.1, by have := (H4.out q hq).2.2; simp [World.setCell]; omega⟩)
        refine (hr.ch CH0.out (fun q hq hm => ?_)).keep (fun q hq o ho => (heap_set_ne (H4.out q hq).1).trans ((heap_set_ne (H4.out q hq).2.1).trans ho))
        have h := H4.out q hq
        simp at hm; omega
      · go_wp2_with fail
        go_ret2
        have hm := HM.out
        have hr : Row w 101 2 (.slice (some ⟨bq, off + 2, none⟩) m (cap - 1)) qs q'.length (wcells q') := by rw [← hm]; exact HT2.out hc1
        have hsz := HSZ.out
        refine ⟨by rw [EN.out, EE.out]; rfl, ?_, (CH0.out.setCell _ _ (.inl (by simp))).setCell _ _ (.inl (by simp))⟩
        rw [E.out]
        have h2 := (H2''.out.setC i t).setQ (.slice (some ⟨bq, off + 2, none⟩) m (cap - 1))
        rw [List.set_set] at h2
        refine Rs.mk' (H1.out.give HINV.out i t (by have := HLL.out; omega) HCS.out ⟨by omega, by omega⟩ HTG.out q') h2 ?_ (fun q hq => ⟨(H4.out q hq).1, (H4.out q hq).2.1, by have := (H4.out q hq).2.2; simp [World.setCell]; omega⟩)
        refine (hr.ch CH0.out (fun q hq hm => ?_)).keep (fun q hq o ho => (heap_set_ne (H4.out q hq).1).trans ((heap_set_ne (H4.out q hq).2.1).trans ho))
        have h := H4.out q hq
        simp at hm; omega
  · have P := Lib.hid (HPB.out (by
      have hne : s.cs.getD i 0 ≠ 1 := fun e => hv ((h1.out inv i (by omega)).2 e)
      have : s.cs[i]?.getD 0 ≠ 1 := by simpa [List.getD_eq_getElem?_getD] using hne
      simp [badC, this]))
    have hv' : (l.getD i 0 != -1) = true := by simpa using hv
    generalize l.getD i 0 = u at *
    clear h1 h2 h3 h4 o2 o3 o4 o5 inv h6 HPB hL hle hv
    go_enter Try.func23, Try.ntmps23
    go_wp2_with fail
    go_ret2
    exact P.out
end Go.Proofs.Ytdncodandmjknaa.R12
