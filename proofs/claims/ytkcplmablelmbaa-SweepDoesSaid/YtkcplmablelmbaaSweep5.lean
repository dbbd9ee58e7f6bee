/-
  THE WALK of SweepWhole.
-/
import Derived.Test.YtkcplmablelmbaaSweep4
set_option linter.unusedVariables false
set_option linter.unusedSimpArgs false
set_option maxRecDepth 100000
namespace Go.Proofs.Ytkcplmablelmbaa.Sw
open Go.RowKit Go.Proofs.Ytkcplmablelmbaa.Hp Go.Proofs.Ytkcplmablelmbaa.Ato Go.Proofs.Ytkcplmablelmbaa.Cp Go.Proofs.Ytkcplmablelmbaa.Cl

/-- Grey ones become of another colour (t). -/
def unc (t : Int) (x : Cel) : Cel := if x.c = 1 then { x with c := t } else x
def uncTo (t : Int) (r : List Cel) (k : Nat) : List Cel := (r.take k).map (unc t) ++ r.drop k
theorem uncTo_length (t : Int) (r : List Cel) (k : Nat) : (uncTo t r k).length = r.length := by simp [uncTo]; omega
theorem uncTo_zero (t : Int) (r : List Cel) : uncTo t r 0 = r := by simp [uncTo]
theorem uncTo_all (t : Int) (r : List Cel) : uncTo t r r.length = r.map (unc t) := by simp [uncTo]
theorem uncTo_get (t : Int) (r : List Cel) (k : Nat) (h : k < r.length) : (uncTo t r k).getD k free = r.getD k free := by
  unfold uncTo
  simp only [List.getD_eq_getElem?_getD]
  rw [List.getElem?_append_right (by simp; omega)]
  simp [show k - min k r.length = 0 by omega]
theorem uncTo_step (t : Int) (r : List Cel) (k : Nat) (h : k < r.length) : (uncTo t r k).set k (unc t (r.getD k free)) = uncTo t r (k + 1) := by
  unfold uncTo
  rw [List.set_append_right _ _ (by simp; omega), show k - ((r.take k).map (unc t)).length = 0 by simp; omega, List.drop_eq_getElem_cons h, List.set_cons_zero]
  rw [show List.take (k + 1) r = List.take k r ++ [r[k]] by simp]
  simp only [List.map_append, List.map_cons, List.map_nil, List.append_assoc, List.cons_append, List.nil_append]
  rw [show r.getD k free = r[k] by simp [List.getD, h]]
theorem uncTo_same (t : Int) (r : List Cel) (k : Nat) (h : k < r.length) (hc : (r.getD k free).c ≠ 1) : uncTo t r k = uncTo t r (k + 1) := by
  rw [← uncTo_step t r k h]
  symm
  refine set_same _ _ _ (by rw [uncTo_length]; exact h) ?_
  rw [uncTo_get t r k h]
  unfold unc
  rw [if_neg hc]
theorem unc_in {t : Int} (ht : 0 ≤ t ∧ t < 256) {x : Cel} (h : InR x) : InR (unc t x) := by
  unfold unc
  split
  · exact ⟨h.1, h.2.1, ht.1, ht.2, h.2.2.2.2⟩
  · exact h
theorem unc_noGrey {t : Int} (ht : t ≠ 1) (r : List Cel) : NoGrey ((r.map (unc t)).map norm) := by
  intro x hx
  simp only [List.mem_map] at hx
  obtain ⟨y, ⟨z, _, rfl⟩, rfl⟩ := hx
  unfold norm
  split
  · decide
  · unfold unc
    split
    · exact ht
    · assumption

theorem J.new {w0 w : World} {p s : Nat} {F : List Nat} {l : List Cel} (h : Is w p s F l) (hc : Ch [] w0 w) (hf : ∀ b ∈ F, w0.heap.size ≤ b) (O : List (Nat × Obj)) (ho : ∀ x ∈ O, w.heap[x.1]? = some x.2 ∧ x.1 ∉ F) :
    Calls Try.prog 9 #[.pointer (some ⟨p, 0, none⟩)] w fun e w' => ∃ v, e = .returned (.pointer (some ⟨v, 0, none⟩)) ∧ J w0 w' v p s F l l.length 0 O := by
  refine (New_any w p s F l h).mono ?_
  rintro e w' ⟨h1, h2, h3⟩
  exact ⟨_, h1, ⟨h.ch h3 (by simp), h2, fun hm => by have := h.lt _ hm; omega, hc.trans0 h3, hf, hc.size⟩, fun x hx => ⟨h3.heap (ho x hx).1 (by simp), (ho x hx).2, fun e => by have := lt_of (ho x hx).1; omega⟩⟩

theorem SweepWhole_any (w : World) (ao : Option Addr) (cap : Nat) (r : List Cel) (hr : Rd w ao (r.length * 4) (flat r)) (hin : ∀ x ∈ r, InR x) (hcap : r.length ≤ cap ∧ cap ≤ maxLen) (h0 : ao = none → cap = 0) :
    Calls Try.prog 4 #[.slice ao r.length cap] w fun e w' => e = .returned (.bool true) ∧ Ch [] w w' := by
  by_cases hbig : 4096 < r.length
  · clear hr hin
    generalize r.length = n at *
    go_enter Try.func4, Try.ntmps4
    go_wp2_with fail
    go_ret
    exact ⟨rfl, Ch.refl _ _⟩
  · have hn : r.length ≤ 4096 := by omega
    have HR := Lib.hid hr
    have HI := Lib.hid hin
    have HN0 := Lib.hid hn
    generalize hN : r.length = n at *
    have HN := Lib.hid hN
    clear hr hin hbig
    go_enter Try.func4, Try.ntmps4
    go_wp2_with fail
    refine (known_any w).mono ?_
    rintro e w1 ⟨rfl, c1⟩
    have C1 := Lib.hid c1
    clear c1
    clear hN
    go_wp2_with (at_builtin; refine wpList_append_copy _ rfl _ _ rfl (r := r) (n := n) (ao := ao) (cap := cap) rfl rfl HN.out (HR.out.ch C1.out) HN0.out h0 ?_)
    intro bo bc w2 hrow c2
    have R2 := Lib.hid hrow
    have C2 := Lib.hid (C1.out.trans0 c2)
    clear hrow c2 hcap
    go_wp2_with fail
    go_loopw [5] (fun i wr => ∃ k : Nat, k ≤ n ∧ i = .int .i64 k ∧ Ch [] w wr ∧ (n = 0 ∨ ∃ q off, bo = some ⟨q, off, none⟩ ∧ w.heap.size ≤ q ∧ RowAt wr q off (uncTo 2 r k))) (fun i _ => n - (intOf i).toNat)
    case atStart =>
      refine ⟨0, by omega, rfl, C2.out, ?_⟩
      rcases R2.out with h | ⟨q, off, h1, h2, h3⟩
      · exact .inl h
      · exact .inr ⟨q, off, h1, Nat.le_trans C1.out.size h2, by rw [uncTo_zero]; exact h3⟩
    case round =>
      obtain ⟨k, hk, rfl, c3, hrow⟩ := hrel
      have C3 := Lib.hid c3
      have R3 := Lib.hid hrow
      clear R2 C2 C1
      by_cases hlt : k < n
      · obtain ⟨q, off, rfl, hq, hro⟩ := hrow.resolve_left (by omega)
        have hlen : (uncTo 2 r k).length = n := by rw [uncTo_length]; exact HN.out
        obtain ⟨d1, d2⟩ := hro.cell k 1 (by omega) (by omega)
        have hst := hro.setc k (by omega) 2
        have hg := uncTo_get 2 r k (by rw [HN.out]; exact hlt)
        have hs1 := uncTo_step 2 r k (by rw [HN.out]; exact hlt)
        have hs2 := uncTo_same 2 r k (by rw [HN.out]; exact hlt)
        rw [hg] at d1 hst
        simp only [cel, List.getElem?_cons_zero, List.getElem?_cons_succ, ← Nat.add_assoc] at d1 d2
        generalize hx : r.getD k free = x at *
        obtain ⟨xk, xc, xa, xb⟩ := x
        simp only at d1
        by_cases hc : xc = 1
        · subst hc
          have HS := Lib.hid hst
          have HS1 := Lib.hid hs1
          have HQ := Lib.hid hq
          clear hst hs1 hs2 hx hg hro hrow c3 hlen hq
          go_wp2_with fail
          go_roundw
          case rel => exact ⟨k + 1, by omega, by go_num, C3.out.setCell _ _ (.inr HQ.out), .inr ⟨q, off, rfl, HQ.out, by rw [← HS1.out]; exact HS.out⟩⟩
          case measure => simp [intOf]; omega
        · have hc' : (xc == 1) = false := by simpa using hc
          have HS := Lib.hid (hs2 hc)
          have HQ := Lib.hid hq
          have HO := Lib.hid hro
          clear hst hs1 hs2 hx hg hro hrow c3 hlen hq hc
          go_wp2_with fail
          go_roundw
          case rel => exact ⟨k + 1, by omega, by go_num, C3.out, .inr ⟨q, off, rfl, HQ.out, by rw [← HS.out]; exact HO.out⟩⟩
          case measure => simp [intOf]; omega
      · obtain rfl : k = n := by omega
        clear hrow c3
        go_wp2_with fail
        by_cases h4 : k < 4
        · refine (heap_bad wr bo k bc (.inl h4)).mono ?_
          rintro e w5 ⟨rfl, rfl⟩
          go_wp2_with fail
          go_ret
          exact ⟨rfl, C3.out⟩
        · obtain ⟨q, off, rfl, hq, hro⟩ := R3.out.resolve_left (by omega)
          have hall : uncTo 2 r k = r.map (unc 2) := by rw [← HN.out]; exact uncTo_all 2 r
          rw [hall] at hro
          have hin : ∀ x ∈ r.map (unc 2), InR x := fun x hx => by
            obtain ⟨y, hy, rfl⟩ := List.mem_map.1 hx
            exact unc_in (by omega) (HI.out y hy)
          have hl2 : (r.map (unc 2)).length = k := by rw [List.length_map]; exact HN.out
          have HH := heap_any wr (some ⟨q, off, none⟩) bc (r.map (unc 2)) hin hro.rd (by omega)
          rw [hl2] at HH
          have hng := unc_noGrey (t := 2) (by omega) r
          have hl3 : ((r.map (unc 2)).map norm).length = k := by rw [List.length_map]; exact hl2
          clear hro hin hl2 hall R3 hq HI HR
          generalize (r.map (unc 2)).map norm = l at *
          refine HH.mono ?_
          rintro e w5 ⟨p, s, F, o, rfl, g1, g2, g3, g4, g5⟩
          have cc := C3.out.trans0 g5
          have hf5 : ∀ b ∈ F, w.heap.size ≤ b := fun b hb => Nat.le_trans C3.out.size (g4 b hb).1
          have HJ := J.new g1 cc hf5 [(o, .cells (flat l).toArray 29 (0, 0))] (fun x hx => by
            simp only [List.mem_singleton] at hx
            subst hx
            exact ⟨g2, fun hm => by have := (g4 _ hm).2; simp at this⟩)
          rw [hl3] at HJ
          clear g1 g2 g3 g4 g5 cc hf5 HH C3
          go_wp2_with fail
          refine HJ.mono ?_
          rintro e w6 ⟨v, rfl, j1⟩
          have J1 := Lib.hid j1
          have NG := Lib.hid hng
          have HL := Lib.hid hl3
          clear j1 hng hl3 HJ
          go_wp2_with fail
          go_loopw [7, 9] (fun was rd wq => ∃ (i : Nat) (F : List Nat) (l : List Cel) (a f o : Nat), i ≤ 2 ∧ rd = .int .i64 i ∧ was = .slice (some ⟨o, 0, none⟩) k k ∧ l.length = k ∧ NoGrey l ∧ a ≤ k ∧ f ≤ k ∧ J w wq v p s F l a f [(o, .cells (flat l).toArray 29 (0, 0))]) (fun _ i _ => 2 - (intOf i).toNat)
          case atStart => exact ⟨0, F, l, k, 0, o, by omega, rfl, rfl, HL.out, NG.out, by omega, by omega, J1.out⟩
          case round =>
            obtain ⟨i, F2, l2, a2, f2, o2, hi2, rfl, rfl, hl2, hg2, ha2, hf2, j2⟩ := hrel
            have J2 := Lib.hid j2
            have L2 := Lib.hid hl2
            have G2 := Lib.hid hg2
            have OkL := Lib.hid j2.k.is.ok
            clear j2 hl2 hg2 J1 NG HL
            by_cases hlt2 : i < 2
            · go_wp2_with fail
              refine J2.out.begin.mono ?_
              rintro e w7 ⟨rfl, j3⟩
              have J3 := Lib.hid j3
              clear j3 J2
              go_wp2_with fail
              go_loopw [10, 11] (fun fr ix wx => ∃ (m : Nat) (F3 : List Nat), m ≤ k ∧ ix = .int .i64 m ∧ fr = .int .i64 (freedTo l2 m) ∧ J w wx v p s F3 (swept l2 m) m (freedTo l2 m) [(o2, .cells (flat l2).toArray 29 (0, 0))]) (fun _ ix _ => k - (intOf ix).toNat)
              case atStart => exact ⟨0, F2, by omega, rfl, by rw [freedTo_zero]; rfl, by rw [swept_zero, freedTo_zero]; exact J3.out⟩
              case round =>
                obtain ⟨m, F3, hm, rfl, rfl, j4⟩ := hrel
                have J4 := Lib.hid j4
                clear j4 J3
                by_cases hlm : m < k
                · have hml : m < l2.length := by rw [L2.out]; exact hlm
                  have st := sweep_step l2 OkL.out G2.out m hml
                  have fs := freedTo_step l2 m hml
                  have f1le := freedTo_le l2 m
                  have hdn : decide ((swept l2 m).length ≤ m) = false := by rw [swept_length, L2.out]; simp; omega
                  rw [L2.out] at f1le
                  have q0 := flat_get l2 m 0 hml (by omega)
                  have q1 := flat_get l2 m 1 hml (by omega)
                  have DN := J4.out.done false hdn
                  have ST := fun (wz : World) (hz : J w wz v p s F3 (swept l2 m) m (freedTo l2 m) [(o2, .cells (flat l2).toArray 29 (0, 0))]) => hz.step (by omega) (by omega) m (white (l2.getD m free)) 0 (swept l2 (m + 1)) (m + 1) (freedTo l2 (m + 1)) st
                  rw [fs] at ST
                  have FS := Lib.hid fs
                  have HST := Lib.hid ST
                  have HQ0 := Lib.hid q0
                  have HQ1 := Lib.hid q1
                  clear st fs hdn ST hml q0 q1
                  generalize hf1 : freedTo l2 m = f1 at *
                  generalize hx : l2.getD m free = x at *
                  clear hf1 hx
                  go_wp2_with fail
                  refine DN.mono ?_
                  rintro e wy ⟨rfl, j5⟩
                  have J5 := Lib.hid j5
                  clear j5 DN J4
                  go_wp2_with fail
                  refine (HST.out wy J5.out).mono ?_
                  rintro e wz ⟨rfl, F4, j6⟩
                  have d0 : wz.cell? ⟨o2, m * 4, none⟩ = some (.int .u8 x.k) := (cell_at j6.first).trans (by have := HQ0.out; simpa [cel] using this)
                  have d1 : wz.cell? ⟨o2, m * 4 + 1, none⟩ = some (.int .u8 x.c) := (cell_at j6.first).trans (by have := HQ1.out; simpa [cel] using this)
                  have J6 := Lib.hid j6
                  clear j6 J5 HST HQ0 HQ1
                  by_cases hk0 : x.k = 0
                  · have hk' : (x.k != 0) = false := by simp [hk0]
                    have hw : white x = false := by simp [white, hk0]
                    have J7 := J6.out
                    have FS1 := FS.out
                    rw [hw] at FS1 J7 ⊢
                    have J8 := Lib.hid J7
                    have FS2 := Lib.hid FS1
                    clear J6 FS hw hk0 J7 FS1
                    generalize x.k = xk at *
                    generalize x.c = xc at *
                    go_wp2_with fail
                    go_roundw
                    case rel => exact ⟨m + 1, F4, by omega, by go_num, by rw [FS2.out]; rfl, by rw [FS2.out]; exact J8.out⟩
                    case measure => simp [intOf]; omega
                  · have hk' : (x.k != 0) = true := by simpa using hk0
                    by_cases hc0 : x.c = 0
                    · have hc' : (x.c == 0) = true := by simp [hc0]
                      have hw : white x = true := by simp [white, hc0]; exact hk0
                      have J7 := J6.out
                      have FS1 := FS.out
                      rw [hw] at FS1 J7 ⊢
                      have J8 := Lib.hid J7
                      have FS2 := Lib.hid FS1
                      clear J6 FS hw hk0 hc0 J7 FS1
                      generalize x.k = xk at *
                      generalize x.c = xc at *
                      go_wp2_with fail
                      go_roundw
                      case rel => exact ⟨m + 1, F4, by omega, by go_num, by rw [FS2.out]; go_num, by rw [FS2.out]; exact J8.out⟩
                      case measure => simp [intOf]; omega
                    · have hc' : (x.c == 0) = false := by simpa using hc0
                      have hw : white x = false := by simp [white, hc0]
                      have J7 := J6.out
                      have FS1 := FS.out
                      rw [hw] at FS1 J7 ⊢
                      have J8 := Lib.hid J7
                      have FS2 := Lib.hid FS1
                      clear J6 FS hw hk0 hc0 J7 FS1
                      generalize x.k = xk at *
                      generalize x.c = xc at *
                      go_wp2_with fail
                      go_roundw
                      case rel => exact ⟨m + 1, F4, by omega, by go_num, by rw [FS2.out]; rfl, by rw [FS2.out]; exact J8.out⟩
                      case measure => simp [intOf]; omega
                · obtain rfl : m = k := by omega
                  have hsw : swept l2 m = l2.map sweep1 := by rw [← L2.out]; exact swept_all l2
                  have f1le := freedTo_le l2 m
                  rw [L2.out] at f1le
                  have j5 := J4.out
                  rw [hsw] at j5
                  have hl3 : (l2.map sweep1).length = m := by rw [List.length_map]; exact L2.out
                  generalize freedTo l2 m = f1 at *
                  have SN := j5.snapshot m hl3
                  have L3 := Lib.hid hl3
                  clear j5 hsw J4 hl3
                  go_wp2_with fail
                  refine SN.mono ?_
                  rintro e wy ⟨o3, rfl, j6, _⟩
                  have J6 := Lib.hid j6
                  clear j6 SN
                  go_wp2_with fail
                  refine (J6.out.done true (by rw [L3.out]; simp)).mono ?_
                  rintro e wz ⟨rfl, j7⟩
                  have J7 := Lib.hid j7
                  clear j7 J6
                  go_wp2_with fail
                  refine (Freed_any wz v p m f1 J7.out.k.at').mono ?_
                  rintro e wz' ⟨rfl, rfl⟩
                  go_wp2_with fail
                  go_loopw [18] (fun jx wx => ∃ j : Nat, j ≤ m ∧ jx = .int .i64 j ∧ J w wx v p s F3 (l2.map sweep1) m f1 [(o3, .cells (flat (l2.map sweep1)).toArray 29 (0, 0)), (o2, .cells (flat l2).toArray 29 (0, 0))]) (fun jx _ => m - (intOf jx).toNat)
                  case atStart => exact ⟨0, by omega, rfl, J7.out⟩
                  case round =>
                    obtain ⟨j, hj, rfl, j8⟩ := hrel
                    have J8 := Lib.hid j8
                    clear J7
                    by_cases hjm : j < m
                    · have hjl : j < l2.length := by rw [L2.out]; exact hjm
                      have hjl3 : j < (l2.map sweep1).length := by rw [L3.out]; exact hjm
                      have hm1 : (l2.map sweep1).getD j free = sweep1 (l2.getD j free) := by simp [List.getD, hjl]
                      have hA : ∀ t, t < 4 → wr.cell? ⟨o2, j * 4 + t, none⟩ = (cel (l2.getD j free)).toList[t]? := fun t ht => (cell_at j8.drop1.first).trans (by rw [List.getElem?_toArray]; exact flat_get l2 j t hjl ht)
                      have hB : ∀ t, t < 4 → wr.cell? ⟨o3, j * 4 + t, none⟩ = (cel ((l2.map sweep1).getD j free)).toList[t]? := fun t ht => (cell_at j8.first).trans (by rw [List.getElem?_toArray]; exact flat_get (l2.map sweep1) j t hjl3 ht)
                      rw [hm1] at hB
                      generalize l2.getD j free = x at *
                      obtain ⟨xk, xc, xa, xb⟩ := x
                      have a0 := hA 0 (by omega)
                      have a1 := hA 1 (by omega)
                      have a2 := hA 2 (by omega)
                      have a3 := hA 3 (by omega)
                      have b0 := hB 0 (by omega)
                      have b1 := hB 1 (by omega)
                      have b2 := hB 2 (by omega)
                      have b3 := hB 3 (by omega)
                      clear hA hB hm1 hjl hjl3 j8
                      by_cases hc : xc = 0
                      · subst hc
                        simp only [cel, sweep1, free, if_true, List.getElem?_cons_zero, List.getElem?_cons_succ, Nat.add_zero] at a0 a1 a2 a3 b0 b1 b2 b3
                        go_wp2_with fail
                        have hc9 : Ch [] wr (wr.alloc (.cells #[.int .u8 0, .int .u8 0, .int .u64 0, .int .u64 0] 29)) := (Ch.refl [] wr).alloc _
                        have n9 := heap_new wr (.cells #[.int .u8 0, .int .u8 0, .int .u64 0, .int .u64 0] 29)
                        have e0 := hc9.cell b0 (by simp)
                        have e1 := hc9.cell b1 (by simp)
                        have e2 := hc9.cell b2 (by simp)
                        have e3 := hc9.cell b3 (by simp)
                        have g0 := cell_at (i := 0) n9
                        have g1 := cell_at (i := 1) n9
                        have g2 := cell_at (i := 2) n9
                        have g3 := cell_at (i := 3) n9
                        simp only [List.getElem?_toArray, List.getElem?_cons_zero, List.getElem?_cons_succ] at g0 g1 g2 g3
                        have J9 := Lib.hid (J8.out.chg hc9)
                        clear n9 hc9 J8 a0 a1 a2 a3 b0 b1 b2 b3
                        generalize (wr.alloc (.cells #[.int .u8 0, .int .u8 0, .int .u64 0, .int .u64 0] 29)) = wv at *
                        go_quiet (fail)
                        go_wp2_with fail
                        go_roundw
                        case rel => exact ⟨j + 1, by omega, by go_num, J9.out.chg ((Ch.refl [] wv).drewN _)⟩
                        case measure => simp [intOf]; omega
                      · have hc' : (xc == 0) = false := by simpa using hc
                        simp only [cel, sweep1, hc, if_false, List.getElem?_cons_zero, List.getElem?_cons_succ, Nat.add_zero] at a0 a1 a2 a3 b0 b1 b2 b3
                        clear hc
                        go_wp2_with fail
                        have hc9 : Ch [] wr (wr.alloc (.cells #[.int .u8 xk, .int .u8 0, .int .u64 xa, .int .u64 xb] 29)) := (Ch.refl [] wr).alloc _
                        have n9 := heap_new wr (.cells #[.int .u8 xk, .int .u8 0, .int .u64 xa, .int .u64 xb] 29)
                        have e0 := hc9.cell b0 (by simp)
                        have e1 := hc9.cell b1 (by simp)
                        have e2 := hc9.cell b2 (by simp)
                        have e3 := hc9.cell b3 (by simp)
                        have g0 := cell_at (i := 0) n9
                        have g1 := cell_at (i := 1) n9
                        have g2 := cell_at (i := 2) n9
                        have g3 := cell_at (i := 3) n9
                        simp only [List.getElem?_toArray, List.getElem?_cons_zero, List.getElem?_cons_succ] at g0 g1 g2 g3
                        have J9 := Lib.hid (J8.out.chg hc9)
                        clear n9 hc9 J8 a0 a1 a2 a3 b0 b1 b2 b3
                        generalize (wr.alloc (.cells #[.int .u8 xk, .int .u8 0, .int .u64 xa, .int .u64 xb] 29)) = wv at *
                        go_quiet (fail)
                        go_wp2_with fail
                        go_roundw
                        case rel => exact ⟨j + 1, by omega, by go_num, J9.out.chg ((Ch.refl [] wv).drewN _)⟩
                        case measure => simp [intOf]; omega
                    · obtain rfl : j = m := by omega
                      clear j8
                      go_wp2_with fail
                      go_roundw
                      case rel => exact ⟨i + 1, F3, l2.map sweep1, j, f1, o3, by omega, by go_num, rfl, L3.out, (by
                        intro x hx
                        obtain ⟨y, hy, rfl⟩ := List.mem_map.1 hx
                        exact (sweep1_ok (OkL.out y hy)).2), by omega, by omega, ⟨J8.out.k, fun x hx => J8.out.ob x (by simp at hx; subst hx; simp)⟩⟩
                      case measure => simp [intOf]; omega
            · obtain rfl : i = 2 := by omega
              have C := Lib.hid J2.out.k.ch
              clear J2
              go_wp2_with fail
              go_ret
              exact ⟨rfl, C.out⟩
end Go.Proofs.Ytkcplmablelmbaa.Sw
