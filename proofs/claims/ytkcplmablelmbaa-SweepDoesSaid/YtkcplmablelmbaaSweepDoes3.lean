/-
  THE WALK of SweepDoes.
-/
import Derived.Test.YtkcplmablelmbaaSweepDoes2
import Derived.Deep.DeepCutAuto
import Derived.Deep.CutBlock
set_option linter.unusedVariables false
set_option linter.unusedSimpArgs false
set_option maxRecDepth 100000
namespace Go.Proofs.Ytkcplmablelmbaa.Sw
open Go.RowKit Go.Proofs.Ytkcplmablelmbaa.Hp Go.Proofs.Ytkcplmablelmbaa.Ato Go.Proofs.Ytkcplmablelmbaa.Cp Go.Proofs.Ytkcplmablelmbaa.Cl

theorem chg_length (l : List Cel) (x : OpV) : (Sw.chg l x).length = l.length := by
  unfold Sw.chg make drop turn
  repeat' split
  all_goals simp
set_option maxHeartbeats 4000000 in
theorem SweepDoes_any (w : World) (ao : Option Addr) (cap : Nat) (r : List Cel) (hr : Rd w ao (r.length * 4) (flat r)) (hin : ∀ x ∈ r, InR x)
    (bo : Option Addr) (bm bcap : Nat) (ops : List OpV) (hb : bm = 0 ∨ ∃ b off, bo = some ⟨b, off, none⟩ ∧ ∀ j t, j < bm → t < 7 → w.cell? ⟨b, off + (j * 7 + t), none⟩ = (opc (ops.getD j ⟨0, 0, free, 0⟩)).toList[t]?) (hop : ∀ j, j < bm → OpIn (ops.getD j ⟨0, 0, free, 0⟩)) :
    Calls Try.prog 6 #[.slice ao r.length cap, .slice bo bm bcap] w fun e w' => e = .returned (.bool true) ∧ Ch [] w w' := by
  by_cases hbig : 4096 < r.length
  · clear hr hin hb hop
    generalize r.length = n at *
    go_enter Try.func6, Try.ntmps6
    go_wp2_with fail
    go_ret
    exact ⟨rfl, Ch.refl _ _⟩
  by_cases hbig2 : 3000 < bm
  · clear hr hin hb hop
    generalize r.length = n at *
    go_enter Try.func6, Try.ntmps6
    go_wp2_with fail
    go_ret
    exact ⟨rfl, Ch.refl _ _⟩
  have hprod : r.length * bm ≤ 4096 * 3000 := Nat.mul_le_mul (by omega) (by omega)
  have hprodI : ((r.length : Int) * bm) = ((r.length * bm : Nat) : Int) := by simp
  have HR := Lib.hid hr
  have HI := Lib.hid hin
  have HB := Lib.hid hb
  have HOP := Lib.hid hop
  clear hr hin hb hop
  generalize hN : r.length = n at *
  have HN := Lib.hid hN
  clear hN
  generalize n * bm = pr at *
  by_cases hbig3 : 4000000 < pr
  · go_enter Try.func6, Try.ntmps6
    go_wp2_with fail
    go_ret
    exact ⟨rfl, Ch.refl _ _⟩
  · go_enter Try.func6, Try.ntmps6
    go_wp2_with fail
    refine (known_any w).mono ?_
    rintro e w1 ⟨rfl, c1⟩
    have C1 := Lib.hid c1
    clear c1
    by_cases h4 : n < 4
    · go_wp2_with fail
      refine (heap_bad w1 ao n cap (.inl h4)).mono ?_
      rintro e w5 ⟨rfl, rfl⟩
      have h4I : (n : Int) < 4 := by omega
      go_wp2_with fail
      go_ret
      exact ⟨rfl, C1.out⟩
    · have HH := heap_any w1 ao cap r HI.out (by rw [HN.out]; exact HR.out.ch C1.out) (by rw [HN.out]; omega)
      rw [HN.out] at HH
      have hl3 : (r.map norm).length = n := by rw [List.length_map]; exact HN.out
      generalize r.map norm = l at *
      go_wp2_with fail
      refine HH.mono ?_
      rintro e w5 ⟨p, s, F, o, rfl, g1, g2, g3, g4, g5⟩
      have m5 : M w w5 p s F l [(o, clO l)] := ⟨g1, C1.out.trans0 g5, fun b hb => Nat.le_trans C1.out.size (g4 b hb).1, (fun x hx => by
        simp only [List.mem_singleton] at hx
        subst hx
        exact ⟨g2, fun hm => by have := (g4 _ hm).2; simp at this, Nat.le_trans C1.out.size g3⟩), by simp⟩
      have M5 := Lib.hid m5
      have HL := Lib.hid hl3
      have N1 := New_any w5 p s F l g1
      rw [hl3] at N1
      clear g1 g2 g3 g4 g5 HH C1 HI HR m5 hl3
      go_wp2_with fail
      refine N1.mono ?_
      rintro e w6 ⟨rfl, k1, k2⟩
      have M6 := Lib.hid (M5.out.add k2 w5.heap.size (swO p n 0) (Nat.le_refl _) k1)
      have N2 := New_any w6 p s F l M6.out.is
      rw [HL.out] at N2
      clear k1 k2 N1
      generalize hv0 : w5.heap.size = v0 at *
      clear hv0 M5
      go_wp2_with fail
      refine N2.mono ?_
      rintro e w7 ⟨rfl, k1, k2⟩
      have M7 := Lib.hid (M6.out.add k2 w6.heap.size (swO p n 0) (Nat.le_refl _) k1)
      clear k1 k2 N2
      generalize hv1 : w6.heap.size = v1 at *
      clear hv1 M6
      go_wp2_with fail
      have M8 := Lib.hid (M7.out.add ((Ch.refl [] w7).alloc (ptO 33 v0 v1)) w7.heap.size (ptO 33 v0 v1) (Nat.le_refl _) (heap_new w7 _))
      unfold ptO at M8
      generalize w7.alloc (.cells #[.pointer (some ⟨v0, 0, none⟩), .pointer (some ⟨v1, 0, none⟩)] 33) = w8 at *
      generalize w7.heap.size = bs at *
      clear M7
      refine (RNew_any w8 n).mono ?_
      rintro e w9 ⟨rfl, k1, k2⟩
      have M9 := Lib.hid (M8.out.add k2 w8.heap.size (rfO n 0) (Nat.le_refl _) k1)
      clear k1 k2 M8
      generalize w8.heap.size = u0 at *
      go_wp2_with fail
      refine (RNew_any w9 n).mono ?_
      rintro e w10 ⟨rfl, k1, k2⟩
      have M10 := Lib.hid (M9.out.add k2 w9.heap.size (rfO n 0) (Nat.le_refl _) k1)
      clear k1 k2 M9
      generalize w9.heap.size = u1 at *
      have hbs := (M10.out.ob (bs, .cells #[.pointer (some ⟨v0, 0, none⟩), .pointer (some ⟨v1, 0, none⟩)] 33 (0, 0)) (by simp)).1
      have q0 := ((Ch.refl [] w10).alloc (ptO 52 u0 u1)).cell (cell_at (i := 0) hbs) (by simp)
      have q1 := ((Ch.refl [] w10).alloc (ptO 52 u0 u1)).cell (cell_at (i := 1) hbs) (by simp)
      simp only [ptO] at q0 q1
      have M11 := Lib.hid (M10.out.add ((Ch.refl [] w10).alloc (ptO 52 u0 u1)) w10.heap.size (ptO 52 u0 u1) (Nat.le_refl _) (heap_new w10 _))
      clear M10 hbs
      unfold ptO at M11
      go_wp2_with fail
      generalize w10.alloc (.cells #[.pointer (some ⟨u0, 0, none⟩), .pointer (some ⟨u1, 0, none⟩)] 52) = w11 at *
      generalize w10.heap.size = br at *
      have tw : Two w w11 p s F l l 0 v0 v1 u0 u1 o bs br n 0 n 0 n 0 := by
        have nd := M11.out.nd
        refine ⟨v0, v1, u0, u1, .inl ⟨rfl, rfl, rfl, rfl, rfl⟩, M11.out.some _ ?_ ?_⟩
        · intro x hx
          simp only [List.mem_cons, List.not_mem_nil, or_false] at hx
          rcases hx with rfl | rfl | rfl | rfl | rfl | rfl | rfl <;> simp [ptO]
        · simp at nd ⊢
          obtain ⟨⟨n1, n2, n3, n4, n5, n6⟩, ⟨n7, n8, n9, n10, n11⟩, ⟨n12, n13, n14, n15⟩, ⟨n16, n17, n18⟩, ⟨n19, n20⟩, n21⟩ := nd
          repeat' apply And.intro
          all_goals first | assumption | (refine fun e => absurd e.symm ?_; assumption)
      have T1 := Lib.hid tw
      clear tw M11 q0 q1
      go_loopw [7, 10, 11] (fun was kx ix wx => ∃ (i k : Nat) (F : List Nat) (l : List Cel) (v v' u u' o a f a' f' : Nat), i ≤ bm ∧ ix = .int .i64 i ∧ kx = .int .i64 k ∧ was = .slice (some ⟨o, 0, none⟩) n n ∧ l.length = n ∧ a ≤ n ∧ a' ≤ n ∧ f ≤ i ∧ f' ≤ i ∧ Two w wx p s F l l k v v' u u' o bs br a f a f a' f') (fun _ _ ix _ => bm - (intOf ix).toNat)
      case atStart => exact ⟨0, 0, F, l, v0, v1, u0, u1, o, n, 0, n, 0, by omega, rfl, rfl, rfl, HL.out, by omega, by omega, by omega, by omega, T1.out⟩
      case round =>
        obtain ⟨i, k, F2, l2, v, v', u, u', o2, a, f, a', f', hib, rfl, rfl, rfl, hl2, hle1, hle2, hf1, hf2, t2⟩ := hrel
        have L2 := Lib.hid hl2
        have T2 := Lib.hid t2
        clear T1 HL hl2 t2
        by_cases hlt : i < bm
        · obtain ⟨bb, boff, rfl, hbc⟩ := HB.out.resolve_left (by omega)
          have hA : ∀ t, t < 7 → wr.cell? ⟨bb, boff + (i * 7 + t), none⟩ = (opc (ops.getD i ⟨0, 0, free, 0⟩)).toList[t]? := fun t ht => by
            have h := hbc i t hlt ht
            have hs : ∃ u, (opc (ops.getD i ⟨0, 0, free, 0⟩)).toList[t]? = some u := ⟨_, List.getElem?_eq_getElem (by simp [opc]; omega)⟩
            obtain ⟨u, hu⟩ := hs
            rw [hu] at h ⊢
            exact T2.out.ch.cell h (by simp)
          have hopi := HOP.out i hlt
          generalize ops.getD i ⟨0, 0, free, 0⟩ = x at *
          obtain ⟨kd, nn, ⟨xk, xc, xa, xb⟩, ob⟩ := x
          have a0 := hA 0 (by omega)
          have a1 := hA 1 (by omega)
          have a2 := hA 2 (by omega)
          have a3 := hA 3 (by omega)
          have a4 := hA 4 (by omega)
          have a5 := hA 5 (by omega)
          have a6 := hA 6 (by omega)
          simp only [opc, List.getElem?_cons_zero, List.getElem?_cons_succ, Nat.add_zero, ← Nat.add_assoc] at a0 a1 a2 a3 a4 a5 a6
          clear hA hbc HB
          have ltI : (i : Int) < bm := by omega
          have hal : Ch [] wr (wr.alloc (.cells #[.int .i64 kd, .int .i64 nn, .int .u8 xk, .int .u8 xc, .int .u64 xa, .int .u64 xb, .int .u8 ob] 56)) := (Ch.refl [] wr).alloc _
          have TZ := Lib.hid (T2.out.chg hal)
          have kl := TZ.out.klt
          have klI : (k : Int) < 2 := by omega
          have HOI := Lib.hid hopi
          clear hal T2 hopi HOP hprod hprodI HN
          go_upto_block 2 with fail
          clear a0 a1 a2 a3 a4 a5 a6
          go_cut [7, 10] (fun was kx wx => ∃ (k : Nat) (F : List Nat) (l : List Cel) (v v' u u' o a f a' f' : Nat), kx = .int .i64 k ∧ was = .slice (some ⟨o, 0, none⟩) n n ∧ l.length = n ∧ a ≤ n ∧ a' ≤ n ∧ f ≤ i + 1 ∧ f' ≤ i + 1 ∧ Two w wx p s F l l k v v' u u' o bs br a f a f a' f')
          case first =>
            by_cases h1 : kd = 1
            · subst h1
              obtain ⟨z1, z2, z3, z4, z5, z6, z7⟩ := TZ.out.cells
              have ap := TZ.out.apart
              have zi := TZ.out.is
              generalize wr.alloc (.cells #[.int .i64 1, .int .i64 nn, .int .u8 xk, .int .u8 xc, .int .u64 xa, .int .u64 xb, .int .u8 ob] 56) = wz at *
              go_wp2_with fail
              refine (Begin_any wz v p a f z5).mono ?_
              rintro e w2 ⟨rfl, g1, g2⟩
              have T3 := Lib.hid (TZ.out.sw (g2.mono (by simp)) (zi.ch g2 (fun b hb => by simp only [List.mem_singleton]; intro e; exact ap.2 (e ▸ hb))) (fun b hb => .inl hb) g1)
              clear z1 z2 z3 z4 z5 z6 z7 zi ap g1 g2 TZ
              obtain ⟨z1, z2, z3, z4, z5, z6, z7⟩ := T3.out.cells
              have ap := T3.out.apart
              go_wp2_with fail
              refine (RBegin_any w2 u a f z6).mono ?_
              rintro e w3 ⟨rfl, g1, g2⟩
              have T4 := Lib.hid (T3.out.rf (g2.mono (by simp)) g1 (g2.heap z7 (by simp only [List.mem_singleton]; exact ap.1)))
              clear z1 z2 z3 z4 z5 z6 z7 ap g1 g2 T3
              go_wp2_with fail
              go_meet
              case rel => exact ⟨k, F2, l2, v, v', u, u', o2, 0, 0, a', f', rfl, rfl, L2.out, by omega, by omega, by omega, by omega, T4.out⟩
            · have h1' : (kd == 1) = false := by simpa using h1
              by_cases hch : kd = 2 ∨ kd = 3 ∨ kd = 4 ∨ kd = 5
              · have zi := TZ.out.is
                have CC := change_any (wr.alloc (.cells #[.int .i64 kd, .int .i64 nn, .int .u8 xk, .int .u8 xc, .int .u64 xa, .int .u64 xb, .int .u8 ob] 56)) p s F2 l2 zi ⟨kd, nn, ⟨xk, xc, xa, xb⟩, ob⟩ HOI.out
                have hlc : (Sw.chg l2 ⟨kd, nn, ⟨xk, xc, xa, xb⟩, ob⟩).length = n := by rw [chg_length]; exact L2.out
                generalize Sw.chg l2 ⟨kd, nn, ⟨xk, xc, xa, xb⟩, ob⟩ = l3 at *
                have HLC := Lib.hid hlc
                clear hlc zi HOI h1 h1'
                unfold opc at CC
                rcases hch with rfl | rfl | rfl | rfl
                all_goals
                  go_wp2_with fail
                  refine CC.mono ?_
                  rintro e w3 ⟨rfl, ht⟩
                  obtain ⟨F3, t3⟩ := TZ.out.to ht
                  have T3 := Lib.hid t3
                  clear CC ht TZ t3
                  have SS := Snapshot_any w3 p s F3 l3 T3.out.is
                  rw [HLC.out] at SS
                  go_wp2_with fail
                  refine SS.mono ?_
                  rintro e w4 ⟨rfl, g1, g2⟩
                  have T4 := Lib.hid (T3.out.snap g2 (Nat.le_refl _) g1)
                  clear SS g1 g2 T3
                  go_wp2_with fail
                  go_meet
                  case rel => exact ⟨k, F3, l3, v, v', u, u', w3.heap.size, a, f, a', f', rfl, rfl, HLC.out, by omega, by omega, by omega, by omega, T4.out⟩
              · have c2 : (kd == 2) = false := by simp; omega
                have c3 : (kd == 3) = false := by simp; omega
                have c4 : (kd == 4) = false := by simp; omega
                have c5 : (kd == 5) = false := by simp; omega
                clear hch HOI
                by_cases h6 : kd = 6
                · subst h6
                  have hk1 : ∃ kk : Nat, kk = 1 - k := ⟨_, rfl⟩
                  obtain ⟨kk, hkk⟩ := hk1
                  have hk1 : (1 : Int) - k = kk := by omega
                  have kr : 0 ≤ (kk : Int) ∧ (kk : Int) ≤ 1 := by omega
                  have tz := TZ.out.swap
                  rw [← hkk] at tz
                  have T4 := Lib.hid tz
                  clear tz TZ hkk h1 h1' c2 c3 c4 c5
                  generalize wr.alloc (.cells #[.int .i64 6, .int .i64 nn, .int .u8 xk, .int .u8 xc, .int .u64 xa, .int .u64 xb, .int .u8 ob] 56) = wz at *
                  go_wp2_with fail
                  go_meet
                  case rel => exact ⟨kk, F2, l2, v', v, u', u, o2, a', f', a, f, rfl, rfl, L2.out, by omega, by omega, by omega, by omega, T4.out⟩
                · have c6 : (kd == 6) = false := by simp; omega
                  obtain ⟨z1, z2, z3, z4, z5, z6, z7⟩ := TZ.out.cells
                  have ap := TZ.out.apart
                  have zi := TZ.out.is
                  generalize wr.alloc (.cells #[.int .i64 kd, .int .i64 nn, .int .u8 xk, .int .u8 xc, .int .u64 xa, .int .u64 xb, .int .u8 ob] 56) = wz at *
                  have S1 := Step_any wz v p s F2 l2 a f zi z5 ap.2 (by omega) (by omega)
                  have hat : atOf l2 a ≤ n := by
                    have h1 := L2.out
                    unfold atOf
                    split
                    · omega
                    · rename_i hw
                      have : a < l2.length := by
                        rcases Nat.lt_or_ge a l2.length with h | h
                        · exact h
                        · exact absurd (by unfold way; rw [if_neg (by omega)]) hw
                      omega
                  have hfr : freedOf l2 a f ≤ i + 1 := by unfold freedOf; split <;> omega
                  have hnl : (next l2 a).length = n := by rw [← L2.out]; unfold next; split; simp; split <;> simp
                  have HNL := Lib.hid hnl
                  have OKS : ∀ x ∈ l2, OkC x := zi.ok
                  have R1 := fun (w : World) (h : RAt w u a f) (ho : w.heap[o2]? = some (.cells (flat l2).toArray 29 (0, 0))) => RStep_any w u o2 l2 a f h ho ap.1 OKS (by rw [L2.out]; omega) (by omega) (by omega)
                  rw [L2.out] at R1
                  have HR1 := Lib.hid R1
                  clear hnl OKS R1 h1 h6
                  generalize atOf l2 a = a1 at *
                  generalize freedOf l2 a f = f1 at *
                  generalize next l2 a = l3 at *
                  generalize cellOf l2 a = rc at *
                  generalize backOf l2 a = rb at *
                  generalize errOf l2 a = re at *
                  go_wp2_with fail
                  refine S1.mono ?_
                  rintro e w2 ⟨rfl, F3, g1, g2, g3, g4⟩
                  have T3 := Lib.hid (TZ.out.sw g3 g1 g4 g2)
                  clear S1 g1 g2 g3 g4 zi z1 z2 z3 z4 z5 z6 z7 TZ
                  obtain ⟨z1, z2, z3, z4, z5, z6, z7⟩ := T3.out.cells
                  have RR := HR1.out w2 z6 z7
                  clear HR1
                  go_wp2_with fail
                  refine RR.mono ?_
                  rintro e w3 ⟨rfl, g1, g2, g3⟩
                  have T4 := Lib.hid (T3.out.rf g3 g1 g2)
                  clear z1 z2 z3 z4 z5 z6 z7 ap g1 g2 g3 T3 RR
                  have SS := Snapshot_any w3 p s F3 l3 T4.out.is
                  rw [HNL.out] at SS
                  go_wp2_with fail
                  refine SS.mono ?_
                  rintro e w4 ⟨rfl, g1, g2⟩
                  have T5 := Lib.hid (T4.out.chg g2)
                  have SC := SameCells_any w4 w3.heap.size o2 l3 g1 T5.out.cells.2.2.2.2.2.2 (by rw [HNL.out]; omega)
                  rw [HNL.out] at SC
                  clear SS g1 g2 T4
                  go_wp2_with fail
                  refine SC.mono ?_
                  rintro e w5 ⟨rfl, d, rfl⟩
                  have T6 := Lib.hid (T5.out.chg ((Ch.refl [] w4).drewN d))
                  clear SC T5
                  go_wp2_with fail
                  go_meet
                  case rel => exact ⟨k, F3, l3, v, v', u, u', o2, a1, f1, a', f', rfl, rfl, HNL.out, by omega, by omega, by omega, by omega, T6.out⟩
          case rest =>
            clear TZ L2 klI kl hf1 hf2 hle1 hle2 HOI
            obtain ⟨k, F2, l2, v, v', u, u', o2, a, f, a', f', rfl, rfl, hl2, hle1, hle2, hf1, hf2, t2⟩ := hcut
            have L2 := Lib.hid hl2
            have TZ := Lib.hid t2
            clear hl2 t2
            have hdb : decide (l2.length ≤ a) = decide (a = n) := by rw [L2.out]; congr 1; exact propext ⟨fun h => by omega, fun h => by omega⟩
            obtain ⟨z1, z2, z3, z4, z5, z6, z7⟩ := TZ.out.cells
            have zi := TZ.out.is
            have HAt : ∀ q, Calls Try.prog 16 #[.pointer (some ⟨v, 0, none⟩)] (wc.drewN q) fun e w' => e = .returned (.int .i64 a) ∧ ∃ m, w' = wc.drewN m := fun q => (At_any (wc.drewN q) v p a f z5).mono fun e w' ⟨h1, h2⟩ => ⟨h1, q, h2.symm⟩
            have HFr : ∀ q, Calls Try.prog 14 #[.pointer (some ⟨v, 0, none⟩)] (wc.drewN q) fun e w' => e = .returned (.int .i64 f) ∧ ∃ m, w' = wc.drewN m := fun q => (Freed_any (wc.drewN q) v p a f z5).mono fun e w' ⟨h1, h2⟩ => ⟨h1, q, h2.symm⟩
            have HDn : ∀ q, Calls Try.prog 11 #[.pointer (some ⟨v, 0, none⟩)] (wc.drewN q) fun e w' => e = .returned (.bool (decide (l2.length ≤ a))) ∧ ∃ m, w' = wc.drewN m := fun q => (Done_any (wc.drewN q) v p s a f F2 l2 (zi.ch ((Ch.refl [] wc).drewN q) (by simp)) z5).mono fun e w' ⟨h1, d, h2⟩ => ⟨h1, q + d, by rw [h2, World.drewN_drewN]⟩
            rw [hdb] at HDn
            have kle := TZ.out.klt
            have kI : (k : Int) < 2 := by omega
            clear z5 z6 z7 zi hdb
            go_wp2_with fail
            by_cases han : a = n
            · have hd2 : decide (a = n) = true := by simp [han]
              have hd3 : ((a : Int) == n) = true := by simp [han]
              rw [hd2] at HDn
              clear hd2 han
              go_quiet (first | (go_at_call 16; exact HAt _) | (go_at_call 14; exact HFr _) | (go_at_call 11; exact HDn _))
              go_wp2_with fail
              go_roundw
              case rel => exact ⟨i + 1, k, F2, l2, v, v', u, u', o2, a, f, a', f', by omega, by go_num, rfl, rfl, L2.out, hle1, hle2, by omega, by omega, TZ.out.chg ((Ch.refl [] wc).drewN _)⟩
              case measure => simp [intOf]; omega
            · have hd2 : decide (a = n) = false := by simp [han]
              have hd3 : ((a : Int) == n) = false := by simp; omega
              rw [hd2] at HDn
              clear hd2 han
              go_quiet (first | (go_at_call 16; exact HAt _) | (go_at_call 14; exact HFr _) | (go_at_call 11; exact HDn _))
              go_wp2_with fail
              go_roundw
              case rel => exact ⟨i + 1, k, F2, l2, v, v', u, u', o2, a, f, a', f', by omega, by go_num, rfl, rfl, L2.out, hle1, hle2, by omega, by omega, TZ.out.chg ((Ch.refl [] wc).drewN _)⟩
              case measure => simp [intOf]; omega
        · have C := Lib.hid T2.out.ch
          clear T2
          obtain rfl : i = bm := by omega
          go_wp2_with fail
          go_ret
          exact ⟨rfl, C.out⟩
end Go.Proofs.Ytkcplmablelmbaa.Sw
