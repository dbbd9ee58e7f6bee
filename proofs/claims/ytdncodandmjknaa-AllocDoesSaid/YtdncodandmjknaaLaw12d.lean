/-
  THE LAW AllocDoes: step.
-/
import Derived.Test.YtdncodandmjknaaLaw12c
import Derived.Test.YtdncodandmjknaaKeep5
set_option linter.unusedVariables false
set_option linter.unusedSimpArgs false
set_option maxRecDepth 100000
namespace Go.Proofs.Ytdncodandmjknaa.D12
open Go.RowKit Go.Proofs.Ytdncodandmjknaa.Hp Go.Proofs.Ytdncodandmjknaa.Sm Go.Proofs.Ytdncodandmjknaa.Ap Go.Proofs.Ytdncodandmjknaa.Al Go.Proofs.Ytdncodandmjknaa.R12 Go.Proofs.Ytdncodandmjknaa.Own

def StepPost (w0 w : World) (O : Nat → Nat) (ia ir p c p' c' bp ni nt : Nat) (e : Ending) (w' : World) : Prop :=
  e = .returned (.bool true) ∧ ∃ O' s' ni' nt', ni' ≤ ni + 2 ∧ nt' ≤ nt + 2 ∧ All w0 w' O' ia ir p c p' c' bp ni' nt' s' ∧ Since w O ia ir w' O'
set_option maxHeartbeats 4000000 in
theorem step_any (w0 w : World) (O : Nat → Nat) (ia ir p c p' c' bp ni nt : Nat) (s : St) (kd oa ob : Int) (hob : -9223372036854775808 ≤ ob ∧ ob ≤ 9223372036854775807) (h : All w0 w O ia ir p c p' c' bp ni nt s) (h1 : 1 ≤ ia ∧ ia ≤ 4) (h2 : 1 ≤ ir ∧ ir ≤ 4) (hne : ia ≠ ir) (hn : ni ≤ 100000 ∧ nt ≤ 100000) :
    Calls Try.prog 9 #[.pointer (some ⟨p, 0, none⟩), .pointer (some ⟨p', 0, none⟩), .agg #[.int .i64 kd, .int .i64 oa, .int .i64 ob], .pointer (some ⟨bp, 0, none⟩)] w (StepPost w0 w O ia ir p c p' c' bp ni nt) := by
  have hal : Ch [] w (w.alloc (.cells #[.int .i64 kd, .int .i64 oa, .int .i64 ob] 53)) := (Ch.refl _ _).alloc _
  have A1 := Lib.hid (h.ch (by omega) (by omega) hal)
  have S1 := Lib.hid ((Since.refl w O ia ir).on hal (by simp) (Ext.refl _) (fun _ _ h => h))
  have B0 : Hid (O w.heap.size = 0 ∧ w.heap.size < w.heap.size + 1) := by
    refine ⟨?_, by omega⟩
    rcases Nat.eq_zero_or_pos (O w.heap.size) with h0 | h0
    · exact h0
    · have := h.g.ow w.heap.size (by omega); omega
  have z0 : (w.alloc (.cells #[.int .i64 kd, .int .i64 oa, .int .i64 ob] 53)).cell? ⟨w.heap.size, 1, none⟩ = some (.int .i64 oa) := by go_simp
  have z1 : (w.alloc (.cells #[.int .i64 kd, .int .i64 oa, .int .i64 ob] 53)).cell? ⟨w.heap.size, 2, none⟩ = some (.int .i64 ob) := by go_simp
  have SZ : Hid (w.heap.size ≤ (w.alloc (.cells #[.int .i64 kd, .int .i64 oa, .int .i64 ob] 53)).heap.size) := Lib.hid hal.size
  clear h hal
  by_cases k1 : kd = 1
  · subst k1
    go_enter Try.func9, Try.ntmps9
    go_wp2_with fail
    generalize w.alloc (.cells #[.int .i64 1, .int .i64 oa, .int .i64 ob] 53) = wz at *
    have AA := Ask_a A1.out.g (by omega) A1.out.a oa ob hob
    generalize e1 : askCell s oa = x at *
    generalize e2 : askGot s oa = g at *
    generalize e3 : askErr s oa = er at *
    have E1 := Lib.hid e1
    have E2 := Lib.hid e2
    have E3 := Lib.hid e3
    clear e1 e2 e3
    refine AA.mono ?_
    rintro e wa ⟨rfl, O2, ⟨g1, g2, ⟨T, g3, g4⟩, g6⟩, g5⟩
    have y0 := g3.cell z0 (fun hm => by have := g4 _ hm; have := B0.out.1; simp at *; omega)
    have y1 := g3.cell z1 (fun hm => by have := g4 _ hm; have := B0.out.1; simp at *; omega)
    have hr := A1.out.r.keep g3 g2 (by omega) (fun x hx => by rw [g4 x hx]; exact hne)
    have hbk := A1.out.b.keep g3 g2 (fun x hx => by rw [g4 x hx]; omega)
    have S2 := Lib.hid (S1.out.on g3 (fun x hx => .inl (g4 x hx)) g2 (fun x hx h0 => g6 x (by have := SZ.out; omega) h0))
    have RR := Ask_r g1 (by omega) hr A1.out.inv oa ob hob
    rw [E1.out, E2.out, E3.out] at RR
    have HA2 := Lib.hid g5
    have HB2 := Lib.hid hbk
    have I := Lib.hid A1.out.inv
    clear AA A1 S1 z0 z1 g1 g2 g3 g4 g6 g5 hr hbk
    go_wp2_with fail
    refine RR.mono ?_
    rintro e wb ⟨rfl, O3, ⟨g1, g2, ⟨T, g3, g4⟩, g6⟩, g5⟩
    have S3 := Lib.hid (S2.out.on g3 (fun x hx => .inr (.inl (g4 x hx))) g2 (fun x hx h0 => g6 x (by
      obtain ⟨_, ⟨T1, hT1, _⟩, _⟩ := S2.out
      have := hT1.size; omega) h0))
    have A3 : Hid (All w0 wb O3 ia ir p c p' c' bp ni nt (Ap.ask s oa ob)) := Lib.hid ⟨g1, HA2.out.keep g3 g2 (by omega) (fun x hx => by rw [g4 x hx]; exact hne.symm), g5, I.out.ask oa ob hob, HB2.out.keep g3 g2 (fun x hx => by rw [g4 x hx]; omega)⟩
    clear RR S2 HA2 HB2 I y0 y1 g1 g2 g3 g4 g5 g6 B0 SZ
    go_wp2_with fail
    go_ret
    exact ⟨rfl, O3, _, ni, nt, by omega, by omega, A3.out, S3.out⟩
  · have k1' : (kd == 1) = false := by simpa using k1
    by_cases k2 : kd = 2
    · subst k2
      go_enter Try.func9, Try.ntmps9
      go_wp2_with fail
      generalize w.alloc (.cells #[.int .i64 2, .int .i64 oa, .int .i64 ob] 53) = wz at *
      have AA := Back_a A1.out.g (by omega) A1.out.a oa
      generalize e1 : backN s oa = x at *
      generalize e2 : backErr s oa = er at *
      have E1 := Lib.hid e1
      have E2 := Lib.hid e2
      clear e1 e2
      refine AA.mono ?_
      rintro e wa ⟨rfl, ⟨g1, g2, ⟨T, g3, g4⟩, g6⟩, g5⟩
      have y0 := g3.cell z0 (fun hm => by have := g4 _ hm; have := B0.out.1; simp at *; omega)
      have hr := A1.out.r.keep g3 g2 (by omega) (fun x hx => by rw [g4 x hx]; exact hne)
      have hbk := A1.out.b.keep g3 g2 (fun x hx => by rw [g4 x hx]; omega)
      have S2 := Lib.hid (S1.out.on g3 (fun x hx => .inl (g4 x hx)) g2 (fun x hx h0 => g6 x (by have := SZ.out; omega) h0))
      have RR := Back_r g1 (by omega) hr A1.out.inv oa
      rw [E1.out, E2.out] at RR
      have HA2 := Lib.hid g5
      have HB2 := Lib.hid hbk
      have I := Lib.hid A1.out.inv
      clear AA A1 S1 z0 z1 g1 g2 g3 g4 g6 g5 hr hbk
      go_wp2_with fail
      refine RR.mono ?_
      rintro e wb ⟨rfl, ⟨g1, g2, ⟨T, g3, g4⟩, g6⟩, g5⟩
      have S3 := Lib.hid (S2.out.on g3 (fun x hx => .inr (.inl (g4 x hx))) g2 (fun x hx h0 => g6 x (by
        obtain ⟨_, ⟨T1, hT1, _⟩, _⟩ := S2.out
        have := hT1.size; omega) h0))
      have A3 : Hid (All w0 wb O ia ir p c p' c' bp ni nt (Ap.back s oa)) := Lib.hid ⟨g1, HA2.out.keep g3 g2 (by omega) (fun x hx => by rw [g4 x hx]; exact hne.symm), g5, I.out.back oa, HB2.out.keep g3 g2 (fun x hx => by rw [g4 x hx]; omega)⟩
      clear RR S2 HA2 HB2 I y0 g1 g2 g3 g4 g5 g6 B0 SZ
      go_wp2_with fail
      go_ret
      exact ⟨rfl, O, _, ni, nt, by omega, by omega, A3.out, S3.out⟩
    · have k2' : (kd == 2) = false := by simpa using k2
      by_cases k3 : kd = 3
      · subst k3
        go_enter Try.func9, Try.ntmps9
        go_wp2_with fail
        generalize w.alloc (.cells #[.int .i64 3, .int .i64 oa, .int .i64 ob] 53) = wz at *
        have AA := Finish_a A1.out.g (by omega) A1.out.a oa ob
        have FL : Hid ((finishL s oa ob).length ≤ 8) := by
          have h1 := A1.out.inv.ok.ql
          show _ ≤ _
          unfold finishL
          split
          · rw [List.length_map]; exact Nat.le_trans (List.length_filter_le _ _) h1
          · simp
        refine AA.mono ?_
        rintro e wa ⟨v, rs, O2, rfl, ⟨g1, g2, ⟨T, g3, g4⟩, g6⟩, g5, ⟨r1, r2⟩, r4⟩
        obtain ⟨al, cl, rfl, _⟩ := r1.rd
        have y0 := g3.cell z0 (fun hm => by have := g4 _ hm; have := B0.out.1; simp at *; omega)
        have y1 := g3.cell z1 (fun hm => by have := g4 _ hm; have := B0.out.1; simp at *; omega)
        have hr := A1.out.r.keep g3 g2 (by omega) (fun x hx => by rw [g4 x hx]; exact hne)
        have hbk := A1.out.b.keep g3 g2 (fun x hx => by rw [g4 x hx]; omega)
        have S2 := Lib.hid (S1.out.on g3 (fun x hx => .inl (g4 x hx)) g2 (fun x hx h0 => g6 x (by have := SZ.out; omega) h0))
        have RR := Finish_r g1 (by omega) hr A1.out.inv oa ob
        have HA2 := Lib.hid g5
        have HB2 := Lib.hid hbk
        have I := Lib.hid A1.out.inv
        have R1 := Lib.hid r1
        have R2 : Hid (∀ y ∈ rs, O2 y = 0 ∧ w0.heap.size ≤ y ∧ y < wa.heap.size) := Lib.hid r2
        have RW : Hid (∀ y ∈ rs, w.heap.size ≤ y) := Lib.hid (fun y hy => Nat.le_trans SZ.out (r4 y hy))
        generalize hfl : (finishL s oa ob).length = fl at *
        have HFL := Lib.hid hfl
        clear AA A1 S1 z0 z1 g1 g2 g3 g4 g6 g5 hr hbk r1 r2 r4 hfl
        go_wp2_with fail
        refine RR.mono ?_
        rintro e wb ⟨v, us, O3, rfl, ⟨g1, g2, ⟨T, g3, g4⟩, g6⟩, g5, r1, r2, r3⟩
        obtain ⟨au, cu, rfl, _⟩ := r1.rd
        have S3 := Lib.hid (S2.out.on g3 (fun x hx => .inr (.inl (g4 x hx))) g2 (fun x hx h0 => g6 x (by
          obtain ⟨_, ⟨T1, hT1, _⟩, _⟩ := S2.out
          have := hT1.size; omega) h0))
        have A3 : Hid (All w0 wb O3 ia ir p c p' c' bp ni nt (finish s oa ob)) := Lib.hid ⟨g1, HA2.out.keep g3 g2 (by omega) (fun x hx => by rw [g4 x hx]; exact hne.symm), g5, I.out.finish oa ob, HB2.out.keep g3 g2 (fun x hx => by rw [g4 x hx]; omega)⟩
        have R3 := Lib.hid (R1.out.ch g3 (fun y hy hm => by have := (R2.out y hy).1; have := g4 y hm; omega))
        have hszb := g3.size
        have R4 : Hid (∀ y ∈ rs, O3 y = 0 ∧ w0.heap.size ≤ y ∧ y < wb.heap.size) := Lib.hid (fun y hy => ⟨r3 y (R2.out y hy).2.2 (R2.out y hy).1, (R2.out y hy).2.1, by have := (R2.out y hy).2.2; omega⟩)
        have RU := Lib.hid r1
        have IB := Ints_bk A3.out.g A3.out.b R3.out R4.out (by have := FL.out; omega) (by omega)
        clear RR S2 HA2 HB2 I y0 y1 g1 g2 g3 g4 g5 g6 B0 SZ R1 R2 r1 r3
        go_wp2_with fail
        refine IB.mono ?_
        rintro e wc ⟨rfl, O4, T, g1, g2, g3, g4, g5, g6⟩
        have A4 : Hid (All w0 wc O4 ia ir p c p' c' bp (ni + 1) nt (finish s oa ob)) := Lib.hid ⟨g1, A3.out.a.keep g4 g2 (by omega) (fun x hx => by have := g5 x hx; omega), A3.out.r.keep g4 g2 (by omega) (fun x hx => by have := g5 x hx; omega), A3.out.inv, g3⟩
        have S4 : Hid (Since w O ia ir wc O4) := Lib.hid (S3.out.on g4 (fun x hx => by have := g5 x hx; omega) g2 (fun x hx h0 => by
          obtain ⟨_, ⟨T1, hT1, _⟩, _⟩ := S3.out
          have hs1 := hT1.size
          exact (g6 x (by omega) h0).2 (fun hm => by have := RW.out x hm; omega)))
        have U0 : Hid (∀ y ∈ us, y ∉ T) := Lib.hid (fun y hy hm => by
          have h5 := g5 y hm
          have h6 := (r2 y hy).2.2
          omega)
        obtain ⟨_, _, hv1, m1, m2, m3⟩ := (R3.out.ch g4 (fun y hy hm => by have := (R4.out y hy).1; have := g5 y hm; omega)).rd
        simp only [Value.slice.injEq, true_and] at hv1
        obtain ⟨rfl, rfl⟩ := hv1
        obtain ⟨_, _, hv1, n1, n2, n3⟩ := (RU.out.ch g4 U0.out).rd
        simp only [Value.slice.injEq, true_and] at hv1
        obtain ⟨rfl, rfl⟩ := hv1
        have SI := SameInts_any wc al au fl cl fl cu (finishL s oa ob) (finishL s oa ob) m1 m2 n1 n2 (by simpa using m3) (by simpa using n3)
        simp only [decide_true] at SI
        clear IB A3 S3 R3 R4 RU RW U0 g1 g2 g3 g4 g5 g6 m1 m2 m3 n1 n2 n3 r2
        go_wp2_with fail
        refine SI.mono ?_
        rintro e wd ⟨rfl, d, rfl⟩
        have C6 : Ch [] wc (wc.drewN d) := (Ch.refl _ _).drewN d
        have A6 := Lib.hid (A4.out.ch (by omega) (by omega) C6)
        have S6 := Lib.hid (S4.out.on C6 (by simp) (Ext.refl _) (fun _ _ h => h))
        clear C6 SI A4 S4
        go_wp2_with fail
        go_ret
        exact ⟨rfl, O4, _, ni + 1, nt, by omega, by omega, A6.out, S6.out⟩
      · have k3' : (kd == 3) = false := by simpa using k3
        by_cases k4 : kd = 4
        · subst k4
          go_enter Try.func9, Try.ntmps9
          go_wp2_with fail
          generalize w.alloc (.cells #[.int .i64 4, .int .i64 oa, .int .i64 ob] 53) = wz at *
          have LL := looks_any w0 wz O ia ir p c p' c' bp ni nt s A1.out h1 h2 hn
          clear A1 z0 z1 B0 SZ
          refine LL.mono ?_
          rintro e wa ⟨rfl, O2, a2, s2⟩
          have A2 := Lib.hid a2
          have S2 := Lib.hid (S1.out.trans s2)
          clear LL a2 s2 S1
          go_wp2_with fail
          go_ret
          exact ⟨rfl, O2, s, ni + 2, nt + 2, by omega, by omega, A2.out, S2.out⟩
        · have k4' : (kd == 4) = false := by simpa using k4
          clear k1 k2 k3 k4
          go_enter Try.func9, Try.ntmps9
          go_wp2_with fail
          generalize w.alloc (.cells #[.int .i64 kd, .int .i64 oa, .int .i64 ob] 53) = wz at *
          clear z0 z1 B0 SZ
          go_ret
          exact ⟨rfl, O, s, ni, nt, by omega, by omega, A1.out, S1.out⟩
end Go.Proofs.Ytdncodandmjknaa.D12
