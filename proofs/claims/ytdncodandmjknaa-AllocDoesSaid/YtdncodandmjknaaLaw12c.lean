/-
  THE LAW AllocDoes: looks, step.
-/
import Derived.Test.YtdncodandmjknaaLaw12b
set_option linter.unusedVariables false
set_option linter.unusedSimpArgs false
set_option maxRecDepth 100000
namespace Go.Proofs.Ytdncodandmjknaa.D12
open Go.RowKit Go.Proofs.Ytdncodandmjknaa.Hp Go.Proofs.Ytdncodandmjknaa.Sm Go.Proofs.Ytdncodandmjknaa.Ap Go.Proofs.Ytdncodandmjknaa.Al Go.Proofs.Ytdncodandmjknaa.R12 Go.Proofs.Ytdncodandmjknaa.Own

/-- Both allocators, a book. -/
structure All (w0 w : World) (O : Nat → Nat) (ia ir p c p' c' bp ni nt : Nat) (s : St) : Prop where
  g : G w0 w O
  a : PA w O ia p c s
  r : PR w O ir p' c' s
  inv : Inv s
  b : Bk w O bp ni nt
/-- What has become of them since w: nothing of other owners has turned. -/
structure Since (w : World) (O : Nat → Nat) (ia ir : Nat) (w' : World) (O' : Nat → Nat) : Prop where
  same : ∀ x, x < w.heap.size → O' x = O x
  ch : ∃ T, Ch T w w' ∧ ∀ x ∈ T, (O x = ia ∨ O x = ir ∨ 5 ≤ O x) ∨ w.heap.size ≤ x
  ext : Ext O O'
section
variable {w0 w w1 w2 : World} {O O1 O2 : Nat → Nat} {ia ir p c p' c' bp ni nt : Nat} {s : St} {T : List Nat}
theorem Since.refl (w : World) (O : Nat → Nat) (ia ir : Nat) : Since w O ia ir w O := ⟨fun _ _ => rfl, ⟨[], Ch.refl _ _, by simp⟩, Ext.refl _⟩
theorem Since.on (h : Since w O ia ir w1 O1) (hc : Ch T w1 w2) (hT : ∀ x ∈ T, O1 x = ia ∨ O1 x = ir ∨ 5 ≤ O1 x) (hx : Ext O1 O2) (hs : ∀ x, x < w.heap.size → O1 x = 0 → O2 x = 0) : Since w O ia ir w2 O2 := by
  obtain ⟨h1, ⟨T1, h2, h3⟩, h4⟩ := h
  refine ⟨fun x hlt => ?_, ⟨T1 ++ T, (h2.mono (by simp; exact fun x h => .inl h)).trans' (hc.mono (by simp; exact fun x h => .inr h)), fun x hm => ?_⟩, h4.trans hx⟩
  · by_cases h0 : O1 x = 0
    · rw [hs x hlt h0, ← h1 x hlt, h0]
    · rw [hx x h0, h1 x hlt]
  · rcases List.mem_append.1 hm with hm | hm
    · exact h3 x hm
    · rcases Nat.lt_or_ge x w.heap.size with hlt | hge
      · left; rw [← h1 x hlt]; exact hT x hm
      · exact .inr hge
theorem Since.trans (h : Since w O ia ir w1 O1) (k : Since w1 O1 ia ir w2 O2) : Since w O ia ir w2 O2 := by
  obtain ⟨h1, ⟨T1, h2, h3⟩, h4⟩ := h
  obtain ⟨k1, ⟨T2, k2, k3⟩, k4⟩ := k
  have hsz := h2.size
  refine ⟨fun x hlt => by rw [k1 x (by omega), h1 x hlt], ⟨T1 ++ T2, (h2.mono (by simp; exact fun x h => .inl h)).trans' (k2.mono (by simp; exact fun x h => .inr h)), fun x hm => ?_⟩, h4.trans k4⟩
  rcases List.mem_append.1 hm with hm | hm
  · exact h3 x hm
  · rcases Nat.lt_or_ge x w.heap.size with hlt | hge
    · left
      rcases k3 x hm with h | h
      · rw [← h1 x hlt]; exact h
      · omega
    · exact .inr hge
/-- Nothing was written. -/
theorem All.ch (h : All w0 w O ia ir p c p' c' bp ni nt s) (hia : ia ≠ 0) (hir : ir ≠ 0) (hc : Ch [] w w1) : All w0 w1 O ia ir p c p' c' bp ni nt s :=
  ⟨h.g.step hc (by simp), h.a.keep hc (Ext.refl _) hia (by simp), h.r.keep hc (Ext.refl _) hir (by simp), h.inv, h.b.ch hc⟩
end
set_option maxHeartbeats 4000000 in
theorem looks_any (w0 w : World) (O : Nat → Nat) (ia ir p c p' c' bp ni nt : Nat) (s : St) (h : All w0 w O ia ir p c p' c' bp ni nt s) (h1 : 1 ≤ ia ∧ ia ≤ 4) (h2 : 1 ≤ ir ∧ ir ≤ 4) (hn : ni ≤ 100000 ∧ nt ≤ 100000) :
    Calls Try.prog 10 #[.pointer (some ⟨p, 0, none⟩), .pointer (some ⟨p', 0, none⟩), .pointer (some ⟨bp, 0, none⟩)] w fun e w' => e = .returned (.bool true) ∧ ∃ O', All w0 w' O' ia ir p c p' c' bp (ni + 2) (nt + 2) s ∧ Since w O ia ir w' O' := by
  have HA := Lib.hid h
  clear h
  go_enter Try.func10, Try.ntmps10
  go_wp2_with fail
  go_loopw [7] (fun i wr => ∃ (m : Nat) (O' : Nat → Nat), m ≤ 2 ∧ i = .int .i64 m ∧ All w0 wr O' ia ir p c p' c' bp (ni + m) (nt + m) s ∧ Since w O ia ir wr O') (fun i _ => 2 - (intOf i).toNat)
  case atStart => exact ⟨0, O, by omega, rfl, HA.out, Since.refl _ _ _ _⟩
  case round =>
    obtain ⟨m, O1, hm, rfl, hall, hsi⟩ := hrel
    have HL := Lib.hid hall
    have HS := Lib.hid hsi
    clear hall hsi HA
    by_cases hlt : m < 2
    · have hltI : (m : Int) < 2 := by omega
      obtain ⟨qs, a1, a2⟩ := HL.out.a
      have FR := Al.Free_any wr p c qs s a1
      clear a1 a2
      go_wp2_with fail
      refine FR.mono ?_
      rintro e wa ⟨v, rs, rfl, r1, r2, r3⟩
      have L1 := Lib.hid (HL.out.ch (by omega) (by omega) r2)
      have S1 := Lib.hid (HS.out.on r2 (by simp) (Ext.refl _) (fun _ _ h => h))
      have O0 : Hid (∀ y ∈ rs, O1 y = 0 ∧ w0.heap.size ≤ y ∧ y < wa.heap.size ∧ w.heap.size ≤ y) := by
        intro y hy
        have h3 := r3 y hy
        have hs0 := HL.out.g.ch.size
        obtain ⟨_, ⟨T1, hT1, _⟩, _⟩ := HS.out
        have hs1 := hT1.size
        refine ⟨?_, by omega, h3.2, by omega⟩
        rcases Nat.eq_zero_or_pos (O1 y) with h0 | h0
        · exact h0
        · have := HL.out.g.ow y (by omega); omega
      obtain ⟨al, cl, rfl, _⟩ := r1.rd
      have R1 := Lib.hid r1
      obtain ⟨qs', a1, a2⟩ := L1.out.a
      have WA := Waiting_any wa p c qs' s a1
      clear r1 r2 r3 a1 a2 FR
      go_wp2_with fail
      refine WA.mono ?_
      rintro e wb ⟨v, ts, rfl, r1, r2, r3⟩
      have L2 := Lib.hid (L1.out.ch (by omega) (by omega) r2)
      have S2 := Lib.hid (S1.out.on r2 (by simp) (Ext.refl _) (fun _ _ h => h))
      have hszb := r2.size
      have T0 : Hid (∀ y ∈ ts, O1 y = 0 ∧ w0.heap.size ≤ y ∧ y < wb.heap.size ∧ y ∉ rs ∧ w.heap.size ≤ y) := by
        intro y hy
        have h3 := r3 y hy
        have hs0 := L1.out.g.ch.size
        obtain ⟨_, ⟨T1, hT1, _⟩, _⟩ := S1.out
        have hs1 := hT1.size
        refine ⟨?_, by omega, h3.2, fun hm => ?_, by omega⟩
        · rcases Nat.eq_zero_or_pos (O1 y) with h0 | h0
          · exact h0
          · have := L1.out.g.ow y (by omega); omega
        · have := (O0.out y hm).2.2.1; omega
      have R2 := Lib.hid (R1.out.ch r2 (by simp))
      obtain ⟨at', ct, rfl, _⟩ := r1.rd
      have RT := Lib.hid r1
      have FL : Hid ((freeL s).length ≤ 4096) := by
        have e : freeL s = freeTo s s.cs.length := rfl
        have := freeTo_le s s.cs.length
        rw [← e] at this
        have := L1.out.inv.ok.len
        show _ ≤ _
        omega
      have QL := Lib.hid L1.out.inv.ok.ql
      have IB := Ints_bk L2.out.g L2.out.b R2.out (fun y hy => ⟨(O0.out y hy).1, (O0.out y hy).2.1, by have := (O0.out y hy).2.2.1; omega⟩) (by have := FL.out; omega) (by omega)
      generalize hfl : (freeL s).length = fl at *
      have HFL := Lib.hid hfl
      obtain ⟨N, hN⟩ : ∃ N, N = s.q.length := ⟨_, rfl⟩
      rw [← hN] at RT QL
      have HN := Lib.hid hN
      clear r1 r2 r3 WA R1 L1 S1 hfl hN
      rw [← HN.out]
      go_wp2_with fail
      refine IB.mono ?_
      rintro e wc ⟨rfl, O2, T, g1, g2, g3, g4, g5, g6⟩
      have hszc := g4.size
      have A3 : Hid (All w0 wc O2 ia ir p c p' c' bp (ni + m + 1) (nt + m) s) := Lib.hid ⟨g1, L2.out.a.keep g4 g2 (by omega) (fun x hx => by have := g5 x hx; omega), L2.out.r.keep g4 g2 (by omega) (fun x hx => by have := g5 x hx; omega), L2.out.inv, g3⟩
      have S3 : Hid (Since w O ia ir wc O2) := Lib.hid (S2.out.on g4 (fun x hx => by have := g5 x hx; omega) g2 (fun x hx h0 => by
        obtain ⟨_, ⟨T1, hT1, _⟩, _⟩ := S2.out
        have hs1 := hT1.size
        exact (g6 x (by omega) h0).2 (fun hm => by have := (O0.out x hm).2.2.2; omega)))
      have R3 := Lib.hid (R2.out.ch g4 (fun y hy hm => by have := (O0.out y hy).1; have := g5 y hm; omega))
      have RT3 := Lib.hid (RT.out.ch g4 (fun y hy hm => by have := (T0.out y hy).1; have := g5 y hm; omega))
      have O3 : Hid (∀ y ∈ rs, O2 y = 0 ∨ O2 y = 7) := Lib.hid (fun y hy => (g6 y (by have := (O0.out y hy).2.2.1; omega) (O0.out y hy).1).1 hy)
      have T3 : Hid (∀ y ∈ ts, O2 y = 0 ∧ w0.heap.size ≤ y ∧ y < wc.heap.size ∧ w.heap.size ≤ y) := Lib.hid (fun y hy => by
        obtain ⟨t1, t2, t3, t4, t5⟩ := T0.out y hy
        exact ⟨(g6 y t3 t1).2 t4, t2, by omega, t5⟩)
      have WB := Waiters_bk A3.out.g A3.out.b RT3.out (fun y hy => ⟨(T3.out y hy).1, (T3.out y hy).2.1, (T3.out y hy).2.2.1⟩) (by have := QL.out; omega) (by omega)
      clear g1 g2 g3 g4 g5 g6 IB L2 S2 R2 RT O0 T0
      go_wp2_with fail
      refine WB.mono ?_
      rintro e wd ⟨rfl, O4, T, g1, g2, g3, g4, g5, g6⟩
      have hszd := g4.size
      have A4 : Hid (All w0 wd O4 ia ir p c p' c' bp (ni + m + 1) (nt + m + 1) s) := Lib.hid ⟨g1, A3.out.a.keep g4 g2 (by omega) (fun x hx => by have := g5 x hx; omega), A3.out.r.keep g4 g2 (by omega) (fun x hx => by have := g5 x hx; omega), A3.out.inv, g3⟩
      have S4 : Hid (Since w O ia ir wd O4) := Lib.hid (S3.out.on g4 (fun x hx => by have := g5 x hx; omega) g2 (fun x hx h0 => by
        obtain ⟨_, ⟨T1, hT1, _⟩, _⟩ := S3.out
        have hs1 := hT1.size
        exact (g6 x (by omega) h0).2 (fun hm => by have := (T3.out x hm).2.2.2; omega)))
      have R4 := Lib.hid (R3.out.ch g4 (fun y hy hm => by have := O3.out y hy; have := g5 y hm; omega))
      have RT4 := Lib.hid (RT3.out.ch g4 (fun y hy hm => by have := (T3.out y hy).1; have := g5 y hm; omega))
      obtain ⟨qr, b1, b2⟩ := A4.out.r
      have FR2 := R12.Free_any wd p' c' qr s b1 A4.out.inv
      clear g1 g2 g3 g4 g5 g6 WB A3 S3 R3 RT3 O3 T3 b1 b2
      go_wp2_with fail
      refine FR2.mono ?_
      rintro e we ⟨v, us, rfl, r1, r2, r3⟩
      have A5 := Lib.hid (A4.out.ch (by omega) (by omega) r2)
      have S5 := Lib.hid (S4.out.on r2 (by simp) (Ext.refl _) (fun _ _ h => h))
      obtain ⟨_, _, hv1, m1, m2, m3⟩ := (R4.out.ch r2 (by simp)).rd
      simp only [Value.slice.injEq, true_and] at hv1
      obtain ⟨rfl, rfl⟩ := hv1
      obtain ⟨au, cu, rfl, n1, n2, n3⟩ := r1.rd
      rw [HFL.out] at n1 n3
      have SI := SameInts_any we al au fl cl fl cu (freeL s) (freeL s) m1 m2 n1 n2 (by simpa using m3) (by simpa using n3)
      have RT5 := Lib.hid (RT4.out.ch r2 (by simp))
      simp only [decide_true] at SI
      clear r1 r2 r3 FR2 A4 S4 R4 RT4 m1 m2 m3 n1 n2 n3
      rw [HFL.out]
      go_wp2_with fail
      refine SI.mono ?_
      rintro e wf ⟨rfl, d, rfl⟩
      have C6 : Ch [] we (we.drewN d) := (Ch.refl _ _).drewN d
      have A6 := Lib.hid (A5.out.ch (by omega) (by omega) C6)
      have S6 := Lib.hid (S5.out.on C6 (by simp) (Ext.refl _) (fun _ _ h => h))
      have RT6 := Lib.hid (RT5.out.ch C6 (by simp))
      generalize we.drewN d = wg at *
      obtain ⟨qr2, ⟨⟨l, qv, b1, b2, b3⟩, b4⟩, b5⟩ := A6.out.r
      obtain ⟨aw, cw, rfl, m1, m2, m3⟩ := b3.rd
      rw [← HN.out] at b2 m1 m3
      obtain ⟨o1, o2, o3, o4, o5⟩ := b2.open
      obtain ⟨_, _, hv1, n1, n2, n3⟩ := RT6.out.rd
      simp only [Value.slice.injEq, true_and] at hv1
      obtain ⟨rfl, rfl⟩ := hv1
      have SW := SameWaiters_eq wg at' aw N ct cw s.q (by have := QL.out; omega) n3 m3
      clear C6 SI A5 S5 RT5 RT6 b1 b2 b3 b4 b5 m1 m2 m3 o1 o3 o4 o5 n1 n2 n3
      go_wp2_with fail
      refine SW.mono ?_
      rintro e wh ⟨rfl, d2, rfl⟩
      have C7 : Ch [] wg (wg.drewN d2) := (Ch.refl _ _).drewN d2
      have A7 := Lib.hid (A6.out.ch (by omega) (by omega) C7)
      have S7 := Lib.hid (S6.out.on C7 (by simp) (Ext.refl _) (fun _ _ h => h))
      clear C7 SW A6 S6 o2
      go_wp2_with fail
      go_roundw
      case rel => exact ⟨m + 1, O4, by omega, by go_num, A7.out, S7.out⟩
      case measure => simp [intOf]; omega
    · obtain rfl : m = 2 := by omega
      go_wp2_with fail
      go_ret
      exact ⟨rfl, O1, HL.out, HS.out⟩
end Go.Proofs.Ytdncodandmjknaa.D12
