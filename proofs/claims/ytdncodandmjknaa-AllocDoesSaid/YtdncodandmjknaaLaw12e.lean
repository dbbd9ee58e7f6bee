/-
  THE WALK of AllocDoes.
-/
import Derived.Test.YtdncodandmjknaaLaw12d
set_option linter.unusedVariables false
set_option linter.unusedSimpArgs false
set_option maxRecDepth 100000
namespace Go.Proofs.Ytdncodandmjknaa.D12
open Go.RowKit Go.Proofs.Ytdncodandmjknaa.Hp Go.Proofs.Ytdncodandmjknaa.Sm Go.Proofs.Ytdncodandmjknaa.Ap Go.Proofs.Ytdncodandmjknaa.Al Go.Proofs.Ytdncodandmjknaa.R12 Go.Proofs.Ytdncodandmjknaa.Own

/-- Two allocators in turns (B: is there the other one?), and a book. -/
structure Two (w0 w : World) (O : Nat → Nat) (p c p' c' pb cb pb' cb' : Nat) (B : Bool) (bp ni nt : Nat) (s t : St) : Prop where
  a : All w0 w O 1 2 p c p' c' bp ni nt s
  o : B = true → PA w O 3 pb cb t ∧ PR w O 4 pb' cb' t ∧ Inv t
section
variable {w0 w w' : World} {O O' : Nat → Nat} {p c p' c' pb cb pb' cb' bp ni nt ni' nt' : Nat} {B : Bool} {s t s' t' : St}
theorem Two.onA (h : Two w0 w O p c p' c' pb cb pb' cb' B bp ni nt s t) (k : All w0 w' O' 1 2 p c p' c' bp ni' nt' s') (hs : Since w O 1 2 w' O') : Two w0 w' O' p c p' c' pb cb pb' cb' B bp ni' nt' s' t := by
  refine ⟨k, fun hB => ?_⟩
  obtain ⟨_, ⟨T, h1, h2⟩, h3⟩ := hs
  obtain ⟨a1, a2, a3⟩ := h.o hB
  have hO : ∀ x ∈ T, O x ≠ 3 ∧ O x ≠ 4 := fun x hx => by
    rcases h2 x hx with h | h'
    · omega
    · rcases Nat.eq_zero_or_pos (O x) with h0 | h0
      · omega
      · have := h.a.g.ow x (by omega); omega
  exact ⟨a1.keep h1 h3 (by omega) (fun x hx => (hO x hx).1), a2.keep h1 h3 (by omega) (fun x hx => (hO x hx).2), a3⟩
theorem Two.allB (h : Two w0 w O p c p' c' pb cb pb' cb' true bp ni nt s t) : All w0 w O 3 4 pb cb pb' cb' bp ni nt t :=
  ⟨h.a.g, (h.o rfl).1, (h.o rfl).2.1, (h.o rfl).2.2, h.a.b⟩
theorem Two.onB (h : Two w0 w O p c p' c' pb cb pb' cb' true bp ni nt s t) (k : All w0 w' O' 3 4 pb cb pb' cb' bp ni' nt' t') (hs : Since w O 3 4 w' O') : Two w0 w' O' p c p' c' pb cb pb' cb' true bp ni' nt' s t' := by
  obtain ⟨_, ⟨T, h1, h2⟩, h3⟩ := hs
  have hO : ∀ x ∈ T, O x ≠ 1 ∧ O x ≠ 2 := fun x hx => by
    rcases h2 x hx with h | h'
    · omega
    · rcases Nat.eq_zero_or_pos (O x) with h0 | h0
      · omega
      · have := h.a.g.ow x (by omega); omega
  exact ⟨⟨k.g, h.a.a.keep h1 h3 (by omega) (fun x hx => (hO x hx).1), h.a.r.keep h1 h3 (by omega) (fun x hx => (hO x hx).2), h.a.inv, k.b⟩, fun _ => ⟨k.a, k.r, k.inv⟩⟩
theorem Two.ch (h : Two w0 w O p c p' c' pb cb pb' cb' B bp ni nt s t) (hc : Ch [] w w') : Two w0 w' O p c p' c' pb cb pb' cb' B bp ni nt s t :=
  ⟨h.a.ch (by omega) (by omega) hc, fun hB => by
    obtain ⟨a1, a2, a3⟩ := h.o hB
    exact ⟨a1.keep hc (Ext.refl _) (by omega) (by simp), a2.keep hc (Ext.refl _) (by omega) (by simp), a3⟩⟩
theorem NewA (hg : G w0 w O) (id : Nat) (hid : id ≠ 0) (n : Nat) (h4 : 4 ≤ n) (h4096 : n ≤ 4096) :
    Calls Try.prog 7 #[.int .i64 n] w fun e w' => ∃ p c O', e = .returned (.tuple #[.pointer (some ⟨p, 0, none⟩), .int .i64 0]) ∧ G w0 w' O' ∧ Ext O O' ∧ Ch [] w w' ∧ PA w' O' id p c (new n) := by
  refine (L12.New_own w n h4 h4096).mono fun e w' ⟨p, c, he, qs, i1, i2, i3, i4, i5⟩ => ?_
  have hl := i1.lt
  have hq := i1.qne
  obtain ⟨g1, g2, g3, _⟩ := more (l := p :: c :: qs) hg hid i2 (by simp) (fun x hx => by
    rcases List.mem_cons.1 hx with rfl | hx
    · exact ⟨.inr i3, hl.1⟩
    rcases List.mem_cons.1 hx with rfl | hx
    · exact ⟨.inr i4, hl.2⟩
    · exact ⟨.inr (i5 x hx), (hq x hx).2.2⟩)
  exact ⟨p, c, _, he, g1, g2, i2, qs, i1, g3⟩
theorem NewR (hg : G w0 w O) (id : Nat) (hid : id ≠ 0) (n : Nat) (h4 : 4 ≤ n) (h4096 : n ≤ 4096) :
    Calls Try.prog 8 #[.int .i64 n] w fun e w' => ∃ p c O', e = .returned (.tuple #[.pointer (some ⟨p, 0, none⟩), .int .i64 0]) ∧ G w0 w' O' ∧ Ext O O' ∧ Ch [] w w' ∧ PR w' O' id p c (new n) := by
  refine (R12.New_any w n h4 h4096).mono fun e w' ⟨p, c, he, i1, i2, i3, i4⟩ => ?_
  have hl := i1.lt
  obtain ⟨g1, g2, g3, _⟩ := more (l := p :: c :: []) hg hid i2 (by simp) (fun x hx => by
    rcases List.mem_cons.1 hx with rfl | hx
    · exact ⟨.inr i3, hl.1⟩
    rcases List.mem_cons.1 hx with rfl | hx
    · exact ⟨.inr i4, hl.2.1⟩
    · cases hx)
  exact ⟨p, c, _, he, g1, g2, i2, [], i1, g3⟩
end
theorem new_inv (n : Nat) (h4 : 4 ≤ n) (h4096 : n ≤ 4096) : Inv (new n) := Inv.new n (new_ok n h4 h4096)

theorem Does_big (w : World) (size other : Int) (bo : Option Addr) (bm bcap : Nat) (hbig : 3000 < bm) : Calls Try.prog 4 #[.int .i64 size, .int .i64 other, .slice bo bm bcap] w fun e w' => e = .returned (.bool true) ∧ Ch [] w w' := by
  go_enter Try.func4, Try.ntmps4
  go_wp2_with fail
  refine (L12.works_any w).mono ?_
  rintro e w1 ⟨rfl, c1⟩
  have C1 := Lib.hid c1
  clear c1
  go_wp2_with fail
  go_ret
  exact ⟨rfl, C1.out⟩
theorem Does_none (w : World) (size other : Int) (bo : Option Addr) (bm bcap : Nat) (hbig : ¬ 3000 < bm) (hs : size < 4 ∨ 4096 < size) : Calls Try.prog 4 #[.int .i64 size, .int .i64 other, .slice bo bm bcap] w fun e w' => e = .returned (.bool true) ∧ Ch [] w w' := by
  have NB := fun w => Al.New_bad w size hs
  have NR := fun w => R12.New_bad w size hs
  by_cases ho : other < 4 ∨ 4096 < other
  · have OB := fun w => Al.New_bad w other ho
    have OR := fun w => R12.New_bad w other ho
    clear hs ho
    go_enter Try.func4, Try.ntmps4
    go_wp2_with fail
    refine (L12.works_any w).mono ?_
    rintro e w1 ⟨rfl, c1⟩
    have C1 := Lib.hid c1
    clear c1
    go_wp2_with fail
    refine (NB w1).mono ?_
    rintro e w2 ⟨rfl, rfl⟩
    go_wp2_with fail
    refine (NR w1).mono ?_
    rintro e w2 ⟨rfl, rfl⟩
    go_wp2_with fail
    refine (OB w1).mono ?_
    rintro e w2 ⟨rfl, rfl⟩
    go_wp2_with fail
    refine (OR w1).mono ?_
    rintro e w2 ⟨rfl, rfl⟩
    go_wp2_with fail
    go_ret
    exact ⟨rfl, C1.out⟩
  · obtain ⟨n, rfl⟩ := Int.eq_ofNat_of_zero_le (show 0 ≤ other by omega)
    have OB := fun w => L12.New_own w n (by omega) (by omega)
    have OR := fun w => R12.New_any w n (by omega) (by omega)
    clear hs ho
    go_enter Try.func4, Try.ntmps4
    go_wp2_with fail
    refine (L12.works_any w).mono ?_
    rintro e w1 ⟨rfl, c1⟩
    have C1 := Lib.hid c1
    clear c1
    go_wp2_with fail
    refine (NB w1).mono ?_
    rintro e w2 ⟨rfl, rfl⟩
    go_wp2_with fail
    refine (NR w1).mono ?_
    rintro e w2 ⟨rfl, rfl⟩
    go_wp2_with fail
    refine (OB w1).mono ?_
    rintro e w2 ⟨p, c, rfl, qs, _, hc, _⟩
    have C2 := Lib.hid (C1.out.trans' hc)
    clear hc
    go_wp2_with fail
    refine (OR w2).mono ?_
    rintro e w3 ⟨p', c', rfl, _, hc, _⟩
    have C3 := Lib.hid (C2.out.trans' hc)
    clear hc
    go_wp2_with fail
    go_ret
    exact ⟨rfl, C3.out⟩
set_option maxHeartbeats 4000000 in
theorem Does_one (w : World) (size other : Int) (bo : Option Addr) (bm bcap : Nat) (ops : List Kp.OpV) (hb : bm = 0 ∨ ∃ b off, bo = some ⟨b, off, none⟩ ∧ ∀ j t, j < bm → t < 3 → w.cell? ⟨b, off + (j * 3 + t), none⟩ = (Kp.opc (ops.getD j ⟨0, 0, 0⟩)).toList[t]?) (hop : ∀ j, j < bm → Kp.OpIn (ops.getD j ⟨0, 0, 0⟩)) (hbig : ¬ 3000 < bm) (hs : 4 ≤ size ∧ size ≤ 4096) (ho : other < 4 ∨ 4096 < other) : Calls Try.prog 4 #[.int .i64 size, .int .i64 other, .slice bo bm bcap] w fun e w' => e = .returned (.bool true) ∧ Ch [] w w' := by
  obtain ⟨n, rfl⟩ := Int.eq_ofNat_of_zero_le (show 0 ≤ size by omega)
  have HB := Lib.hid hb
  have HOP := Lib.hid hop
  have hb0 : decide ((3000 : Int) < bm) = false := by simp; omega
  have n4 : 4 ≤ n ∧ n ≤ 4096 := by omega
  have OB := fun w => Al.New_bad w other ho
  have OR := fun w => R12.New_bad w other ho
  clear hb hop hs ho
  go_enter Try.func4, Try.ntmps4
  go_wp2_with fail
  refine (L12.works_any w).mono ?_
  rintro e w1 ⟨rfl, c1⟩
  have G1 : Hid (G w w1 (fun _ => 0)) := Lib.hid ⟨c1, fun x hx => absurd rfl hx⟩
  clear c1
  go_wp2_with fail
  refine (NewA G1.out 1 (by omega) n n4.1 n4.2).mono ?_
  rintro e w2 ⟨p, c, O2, rfl, g1, g2, g3, g4⟩
  have G2 := Lib.hid g1
  have A2 := Lib.hid g4
  clear g1 g2 g3 g4 G1
  go_wp2_with fail
  refine (NewR G2.out 2 (by omega) n n4.1 n4.2).mono ?_
  rintro e w3 ⟨p', c', O3, rfl, g1, g2, g3, g4⟩
  have G3 := Lib.hid g1
  have A3 := Lib.hid (A2.out.keep g3 g2 (by omega) (by simp))
  have R3 := Lib.hid g4
  clear g1 g2 g3 g4 G2 A2
  go_wp2_with fail
  refine (OB w3).mono ?_
  rintro e w4 ⟨rfl, rfl⟩
  go_wp2_with fail
  refine (OR w3).mono ?_
  rintro e w4 ⟨rfl, rfl⟩
  obtain ⟨w5, hw5⟩ : ∃ w5 : World, w5 = w3 := ⟨_, rfl⟩
  rw [← hw5] at G3 A3 R3 ⊢
  clear hw5 OB OR
  have nb := Bk.new G3.out
  have hal : Ch [] w5 (w5.alloc (.cells (bookArr (.slice none 0 0) (.slice none 0 0) (.slice none 0 0) (.slice none 0 0) (.slice none 0 0)) 50)) := (Ch.refl _ _).alloc _
  have hxe := put_ext (w' := w5) G3.out 5 [w5.heap.size] (fun x hx => by simp at hx; right; omega)
  have T6 : Hid (Two w (w5.alloc (.cells (bookArr (.slice none 0 0) (.slice none 0 0) (.slice none 0 0) (.slice none 0 0) (.slice none 0 0)) 50)) (put O3 5 [w5.heap.size]) p c p' c' 0 0 0 0 false w5.heap.size 0 0 (new n) (new n)) := Lib.hid
    ⟨⟨nb.1, A3.out.keep hal hxe (by omega) (by simp), R3.out.keep hal hxe (by omega) (by simp), new_inv n n4.1 n4.2, nb.2⟩, fun h => by cases h⟩
  unfold bookArr at T6
  clear G3 A3 R3 nb hal hxe
  go_wp2_with fail
  generalize w5.alloc (.cells #[.slice none 0 0, .slice none 0 0, .slice none 0 0, .slice none 0 0, .slice none 0 0, .slice none 0 0, .slice none 0 0, .slice none 0 0, .slice none 0 0, .slice none 0 0, .slice none 0 0, .slice none 0 0, .slice none 0 0, .slice none 0 0, .slice none 0 0, .slice none 0 0, .slice none 0 0] 50) = w6 at *
  generalize put O3 5 [w5.heap.size] = O6 at *
  generalize w5.heap.size = bp at *
  go_loopw [17] (fun i wr => ∃ (j : Nat) (O : Nat → Nat) (s t : St) (ni nt : Nat), j ≤ bm ∧ i = .int .i64 j ∧ ni ≤ 2 * j ∧ nt ≤ 2 * j ∧ Two w wr O p c p' c' 0 0 0 0 false bp ni nt s t) (fun i _ => bm - (intOf i).toNat)
  case atStart => exact ⟨0, O6, new n, new n, 0, 0, by omega, rfl, by omega, by omega, T6.out⟩
  case round =>
    obtain ⟨j, O, s, t, ni, nt, hj, rfl, hni, hnt, two⟩ := hrel
    have TW := Lib.hid two
    clear two T6
    by_cases hlt : j < bm
    · obtain ⟨bb, boff, rfl, hbc⟩ := HB.out.resolve_left (by omega)
      have hch := TW.out.a.g.ch
      have hA : ∀ t, t < 3 → wr.cell? ⟨bb, boff + (j * 3 + t), none⟩ = (Kp.opc (ops.getD j ⟨0, 0, 0⟩)).toList[t]? := fun t ht => by
        have h := hbc j t hlt ht
        have hs : ∃ u, (Kp.opc (ops.getD j ⟨0, 0, 0⟩)).toList[t]? = some u := ⟨_, List.getElem?_eq_getElem (by simp [Kp.opc]; omega)⟩
        obtain ⟨u, hu⟩ := hs
        rw [hu] at h ⊢
        exact hch.cell h (by simp)
      have hopi := HOP.out j hlt
      generalize ops.getD j ⟨0, 0, 0⟩ = x at *
      obtain ⟨kd, oa, ob⟩ := x
      have a0 := hA 0 (by omega)
      have a1 := hA 1 (by omega)
      have a2 := hA 2 (by omega)
      simp only [Kp.opc, List.getElem?_cons_zero, List.getElem?_cons_succ, Nat.add_zero, ← Nat.add_assoc] at a0 a1 a2
      have ltI : (j : Int) < bm := by omega
      have hob : -9223372036854775808 ≤ ob ∧ ob ≤ 9223372036854775807 := hopi.2.2
      have SA := step_any w wr O 1 2 p c p' c' bp ni nt s kd oa ob hob TW.out.a (by omega) (by omega) (by omega) (by omega)
      clear hA hbc HB hopi hob hch HOP
      go_wp2_with fail
      refine SA.mono ?_
      rintro e wb ⟨rfl, O', s', ni', nt', q1, q2, q3, q4⟩
      have TA := Lib.hid (TW.out.onA q3 q4)
      clear SA q3 q4 TW
      go_wp2_with fail
      go_roundw
      case rel => exact ⟨j + 1, O', s', t, ni', nt', by omega, by go_num, by omega, by omega, TA.out⟩
      case measure => simp [intOf]; omega
    · obtain rfl : j = bm := by omega
      have LA := looks_any w wr O 1 2 p c p' c' bp ni nt s TW.out.a (by omega) (by omega) (by omega)
      go_wp2_with fail
      refine LA.mono ?_
      rintro e wa ⟨rfl, O2, q3, q4⟩
      have TA := Lib.hid (TW.out.onA q3 q4)
      clear LA q3 q4 TW
      go_wp2_with fail
      have TB := TA
      obtain ⟨wb, hwb⟩ : ∃ wb : World, wb = wa := ⟨_, rfl⟩
      obtain ⟨O3, hO3⟩ : ∃ O3, O3 = O2 := ⟨_, rfl⟩
      rw [← hwb, ← hO3] at TB
      rw [← hwb]
      clear hwb hO3 TA
      have OW := Own_bk TB.out.a.b (by omega)
      go_wp2_with fail
      refine OW.mono ?_
      rintro e wc ⟨rfl, T, q3, q4⟩
      have g1 : G w wc O3 := TB.out.a.g.step q3 (fun x hx => by have := q4 x hx; left; omega)
      have a1 := TB.out.a.a.keep q3 (Ext.refl O3) (by omega) (fun x hx => by have := q4 x hx; omega)
      have r1 := TB.out.a.r.keep q3 (Ext.refl O3) (by omega) (fun x hx => by have := q4 x hx; omega)
      have nb := Bk.new g1
      have hal : Ch [] wc (wc.alloc (.cells (bookArr (.slice none 0 0) (.slice none 0 0) (.slice none 0 0) (.slice none 0 0) (.slice none 0 0)) 50)) := (Ch.refl _ _).alloc _
      have hxe := put_ext (w' := wc) g1 5 [wc.heap.size] (fun x hx => by simp at hx; right; omega)
      have AZ : Hid (All w (wc.alloc (.cells (bookArr (.slice none 0 0) (.slice none 0 0) (.slice none 0 0) (.slice none 0 0) (.slice none 0 0)) 50)) (put O3 5 [wc.heap.size]) 1 2 p c p' c' wc.heap.size 0 0 s) := Lib.hid
        ⟨nb.1, a1.keep hal hxe (by omega) (by simp), r1.keep hal hxe (by omega) (by simp), TB.out.a.inv, nb.2⟩
      unfold bookArr at AZ
      have LZ := looks_any w _ _ 1 2 p c p' c' _ 0 0 s AZ.out (by omega) (by omega) (by omega)
      clear OW q3 q4 g1 a1 r1 nb hal hxe TB AZ
      go_wp2_with fail
      refine LZ.mono ?_
      rintro e wd ⟨rfl, O4, q3, q4⟩
      have HC := Lib.hid q3.g.ch
      clear LZ q3 q4
      go_wp2_with fail
      go_ret
      exact ⟨rfl, HC.out⟩
set_option maxHeartbeats 4000000 in
theorem Does_two (w : World) (size other : Int) (bo : Option Addr) (bm bcap : Nat) (ops : List Kp.OpV) (hb : bm = 0 ∨ ∃ b off, bo = some ⟨b, off, none⟩ ∧ ∀ j t, j < bm → t < 3 → w.cell? ⟨b, off + (j * 3 + t), none⟩ = (Kp.opc (ops.getD j ⟨0, 0, 0⟩)).toList[t]?) (hop : ∀ j, j < bm → Kp.OpIn (ops.getD j ⟨0, 0, 0⟩)) (hbig : ¬ 3000 < bm) (hs : 4 ≤ size ∧ size ≤ 4096) (ho : 4 ≤ other ∧ other ≤ 4096) : Calls Try.prog 4 #[.int .i64 size, .int .i64 other, .slice bo bm bcap] w fun e w' => e = .returned (.bool true) ∧ Ch [] w w' := by
  obtain ⟨n, rfl⟩ := Int.eq_ofNat_of_zero_le (show 0 ≤ size by omega)
  have HB := Lib.hid hb
  have HOP := Lib.hid hop
  have hb0 : decide ((3000 : Int) < bm) = false := by simp; omega
  have n4 : 4 ≤ n ∧ n ≤ 4096 := by omega
  obtain ⟨m, rfl⟩ := Int.eq_ofNat_of_zero_le (show 0 ≤ other by omega)
  have m4 : 4 ≤ m ∧ m ≤ 4096 := by omega
  clear hb hop hs ho
  go_enter Try.func4, Try.ntmps4
  go_wp2_with fail
  refine (L12.works_any w).mono ?_
  rintro e w1 ⟨rfl, c1⟩
  have G1 : Hid (G w w1 (fun _ => 0)) := Lib.hid ⟨c1, fun x hx => absurd rfl hx⟩
  clear c1
  go_wp2_with fail
  refine (NewA G1.out 1 (by omega) n n4.1 n4.2).mono ?_
  rintro e w2 ⟨p, c, O2, rfl, g1, g2, g3, g4⟩
  have G2 := Lib.hid g1
  have A2 := Lib.hid g4
  clear g1 g2 g3 g4 G1
  go_wp2_with fail
  refine (NewR G2.out 2 (by omega) n n4.1 n4.2).mono ?_
  rintro e w3 ⟨p', c', O3, rfl, g1, g2, g3, g4⟩
  have G3 := Lib.hid g1
  have A3 := Lib.hid (A2.out.keep g3 g2 (by omega) (by simp))
  have R3 := Lib.hid g4
  clear g1 g2 g3 g4 G2 A2
  go_wp2_with fail
  refine (NewA G3.out 3 (by omega) m m4.1 m4.2).mono ?_
  rintro e w4 ⟨pb, cb, O4, rfl, g1, g2, g3, g4⟩
  have G4 := Lib.hid g1
  have A4 := Lib.hid (A3.out.keep g3 g2 (by omega) (by simp))
  have R4 := Lib.hid (R3.out.keep g3 g2 (by omega) (by simp))
  have AB4 := Lib.hid g4
  clear g1 g2 g3 g4 G3 A3 R3
  go_wp2_with fail
  refine (NewR G4.out 4 (by omega) m m4.1 m4.2).mono ?_
  rintro e w5 ⟨pb', cb', O5, rfl, g1, g2, g3, g4⟩
  have nb := Bk.new g1
  have hal : Ch [] w5 (w5.alloc (.cells (bookArr (.slice none 0 0) (.slice none 0 0) (.slice none 0 0) (.slice none 0 0) (.slice none 0 0)) 50)) := (Ch.refl _ _).alloc _
  have hxe := put_ext (w' := w5) g1 5 [w5.heap.size] (fun x hx => by simp at hx; right; omega)
  have T6 : Hid (Two w (w5.alloc (.cells (bookArr (.slice none 0 0) (.slice none 0 0) (.slice none 0 0) (.slice none 0 0) (.slice none 0 0)) 50)) (put O5 5 [w5.heap.size]) p c p' c' pb cb pb' cb' true w5.heap.size 0 0 (new n) (new m)) := Lib.hid
    ⟨⟨nb.1, (A4.out.keep g3 g2 (by omega) (by simp)).keep hal hxe (by omega) (by simp), (R4.out.keep g3 g2 (by omega) (by simp)).keep hal hxe (by omega) (by simp), new_inv n n4.1 n4.2, nb.2⟩,
     fun _ => ⟨(AB4.out.keep g3 g2 (by omega) (by simp)).keep hal hxe (by omega) (by simp), g4.keep hal hxe (by omega) (by simp), new_inv m m4.1 m4.2⟩⟩
  unfold bookArr at T6
  clear g1 g2 g3 g4 G4 A4 R4 AB4 nb hal hxe
  go_wp2_with fail
  generalize w5.alloc (.cells #[.slice none 0 0, .slice none 0 0, .slice none 0 0, .slice none 0 0, .slice none 0 0, .slice none 0 0, .slice none 0 0, .slice none 0 0, .slice none 0 0, .slice none 0 0, .slice none 0 0, .slice none 0 0, .slice none 0 0, .slice none 0 0, .slice none 0 0, .slice none 0 0, .slice none 0 0] 50) = w6 at *
  generalize put O5 5 [w5.heap.size] = O6 at *
  generalize w5.heap.size = bp at *
  go_loopw [17] (fun i wr => ∃ (j : Nat) (O : Nat → Nat) (s t : St) (ni nt : Nat), j ≤ bm ∧ i = .int .i64 j ∧ ni ≤ 2 * j ∧ nt ≤ 2 * j ∧ Two w wr O p c p' c' pb cb pb' cb' true bp ni nt s t) (fun i _ => bm - (intOf i).toNat)
  case atStart => exact ⟨0, O6, new n, new m, 0, 0, by omega, rfl, by omega, by omega, T6.out⟩
  case round =>
    obtain ⟨j, O, s, t, ni, nt, hj, rfl, hni, hnt, two⟩ := hrel
    have TW := Lib.hid two
    clear two T6
    by_cases hlt : j < bm
    · obtain ⟨bb, boff, rfl, hbc⟩ := HB.out.resolve_left (by omega)
      have hch := TW.out.a.g.ch
      have hA : ∀ t, t < 3 → wr.cell? ⟨bb, boff + (j * 3 + t), none⟩ = (Kp.opc (ops.getD j ⟨0, 0, 0⟩)).toList[t]? := fun t ht => by
        have h := hbc j t hlt ht
        have hs : ∃ u, (Kp.opc (ops.getD j ⟨0, 0, 0⟩)).toList[t]? = some u := ⟨_, List.getElem?_eq_getElem (by simp [Kp.opc]; omega)⟩
        obtain ⟨u, hu⟩ := hs
        rw [hu] at h ⊢
        exact hch.cell h (by simp)
      have hopi := HOP.out j hlt
      generalize ops.getD j ⟨0, 0, 0⟩ = x at *
      obtain ⟨kd, oa, ob⟩ := x
      have a0 := hA 0 (by omega)
      have a1 := hA 1 (by omega)
      have a2 := hA 2 (by omega)
      simp only [Kp.opc, List.getElem?_cons_zero, List.getElem?_cons_succ, Nat.add_zero, ← Nat.add_assoc] at a0 a1 a2
      have ltI : (j : Int) < bm := by omega
      have hob : -9223372036854775808 ≤ ob ∧ ob ≤ 9223372036854775807 := hopi.2.2
      have SA := step_any w wr O 1 2 p c p' c' bp ni nt s kd oa ob hob TW.out.a (by omega) (by omega) (by omega) (by omega)
      have SB := step_any w wr O 3 4 pb cb pb' cb' bp ni nt t kd oa ob hob TW.out.allB (by omega) (by omega) (by omega) (by omega)
      clear hA hbc HB hopi hob hch HOP
      by_cases h5 : j % 5 = 4
      · have h5' : ((j : Int) % 5 == 4) = true := by rw [beq_iff_eq]; omega
        clear h5
        go_wp2_with fail
        refine SB.mono ?_
        rintro e wb ⟨rfl, O', s', ni', nt', q1, q2, q3, q4⟩
        have TA := Lib.hid (TW.out.onB q3 q4)
        clear SB SA q3 q4 TW
        go_wp2_with fail
        go_roundw
        case rel => exact ⟨j + 1, O', s, s', ni', nt', by omega, by go_num, by omega, by omega, TA.out⟩
        case measure => simp [intOf]; omega
      · have h5' : ((j : Int) % 5 == 4) = false := by rw [beq_eq_false_iff_ne]; omega
        clear h5 SB
        go_wp2_with fail
        refine SA.mono ?_
        rintro e wb ⟨rfl, O', s', ni', nt', q1, q2, q3, q4⟩
        have TA := Lib.hid (TW.out.onA q3 q4)
        clear SA q3 q4 TW
        go_wp2_with fail
        go_roundw
        case rel => exact ⟨j + 1, O', s', t, ni', nt', by omega, by go_num, by omega, by omega, TA.out⟩
        case measure => simp [intOf]; omega
    · obtain rfl : j = bm := by omega
      have LA := looks_any w wr O 1 2 p c p' c' bp ni nt s TW.out.a (by omega) (by omega) (by omega)
      go_wp2_with fail
      refine LA.mono ?_
      rintro e wa ⟨rfl, O2, q3, q4⟩
      have TA := Lib.hid (TW.out.onA q3 q4)
      clear LA q3 q4 TW
      have LB := looks_any w wa O2 3 4 pb cb pb' cb' bp (ni + 2) (nt + 2) t TA.out.allB (by omega) (by omega) (by omega)
      go_wp2_with fail
      refine LB.mono ?_
      rintro e wb ⟨rfl, O3, q3, q4⟩
      have TB := Lib.hid (TA.out.onB q3 q4)
      clear LB q3 q4 TA
      have OW := Own_bk TB.out.a.b (by omega)
      go_wp2_with fail
      refine OW.mono ?_
      rintro e wc ⟨rfl, T, q3, q4⟩
      have g1 : G w wc O3 := TB.out.a.g.step q3 (fun x hx => by have := q4 x hx; left; omega)
      have a1 := TB.out.a.a.keep q3 (Ext.refl O3) (by omega) (fun x hx => by have := q4 x hx; omega)
      have r1 := TB.out.a.r.keep q3 (Ext.refl O3) (by omega) (fun x hx => by have := q4 x hx; omega)
      have nb := Bk.new g1
      have hal : Ch [] wc (wc.alloc (.cells (bookArr (.slice none 0 0) (.slice none 0 0) (.slice none 0 0) (.slice none 0 0) (.slice none 0 0)) 50)) := (Ch.refl _ _).alloc _
      have hxe := put_ext (w' := wc) g1 5 [wc.heap.size] (fun x hx => by simp at hx; right; omega)
      have AZ : Hid (All w (wc.alloc (.cells (bookArr (.slice none 0 0) (.slice none 0 0) (.slice none 0 0) (.slice none 0 0) (.slice none 0 0)) 50)) (put O3 5 [wc.heap.size]) 1 2 p c p' c' wc.heap.size 0 0 s) := Lib.hid
        ⟨nb.1, a1.keep hal hxe (by omega) (by simp), r1.keep hal hxe (by omega) (by simp), TB.out.a.inv, nb.2⟩
      unfold bookArr at AZ
      have LZ := looks_any w _ _ 1 2 p c p' c' _ 0 0 s AZ.out (by omega) (by omega) (by omega)
      clear OW q3 q4 g1 a1 r1 nb hal hxe TB AZ
      go_wp2_with fail
      refine LZ.mono ?_
      rintro e wd ⟨rfl, O4, q3, q4⟩
      have HC := Lib.hid q3.g.ch
      clear LZ q3 q4
      go_wp2_with fail
      go_ret
      exact ⟨rfl, HC.out⟩
theorem AllocDoes_any (w : World) (size other : Int) (bo : Option Addr) (bm bcap : Nat) (ops : List Kp.OpV) (hb : bm = 0 ∨ ∃ b off, bo = some ⟨b, off, none⟩ ∧ ∀ j t, j < bm → t < 3 → w.cell? ⟨b, off + (j * 3 + t), none⟩ = (Kp.opc (ops.getD j ⟨0, 0, 0⟩)).toList[t]?) (hop : ∀ j, j < bm → Kp.OpIn (ops.getD j ⟨0, 0, 0⟩)) : Calls Try.prog 4 #[.int .i64 size, .int .i64 other, .slice bo bm bcap] w fun e w' => e = .returned (.bool true) ∧ Ch [] w w' := by
  by_cases hbig : 3000 < bm
  · exact Does_big w size other bo bm bcap hbig
  · by_cases hs : size < 4 ∨ 4096 < size
    · exact Does_none w size other bo bm bcap hbig hs
    · by_cases ho : other < 4 ∨ 4096 < other
      · exact Does_one w size other bo bm bcap ops hb hop hbig (by omega) ho
      · exact Does_two w size other bo bm bcap ops hb hop hbig (by omega) (by omega)
end Go.Proofs.Ytdncodandmjknaa.D12
