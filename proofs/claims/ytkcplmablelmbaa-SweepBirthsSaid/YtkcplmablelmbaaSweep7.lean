/-
  THE WALK of SweepBirths.
-/
import Derived.Test.YtkcplmablelmbaaSweep6
import Derived.Test.YtkcplmablelmbaaSame
set_option linter.unusedVariables false
set_option linter.unusedSimpArgs false
set_option maxRecDepth 100000
namespace Go.Proofs.Ytkcplmablelmbaa.Sw
open Go.RowKit Go.Proofs.Ytkcplmablelmbaa.Hp Go.Proofs.Ytkcplmablelmbaa.Ato Go.Proofs.Ytkcplmablelmbaa.Cp Go.Proofs.Ytkcplmablelmbaa.Cl

set_option maxHeartbeats 4000000 in
theorem SweepBirths_any (w : World) (ao : Option Addr) (cap : Nat) (r : List Cel) (hr : Rd w ao (r.length * 4) (flat r)) (hin : ∀ x ∈ r, InR x) (hcap : r.length ≤ cap ∧ cap ≤ maxLen) (h0 : ao = none → cap = 0) (bo : Option Addr) (bm bcap : Nat) (bs : List Int) (hb : bs.length = bm ∧ (bm = 0 ∨ ∃ b off, bo = some ⟨b, off, none⟩ ∧ ∀ j, j < bm → w.cell? ⟨b, off + j, none⟩ = some (.int .i64 (bs.getD j 0)))) (hbi : ∀ x ∈ bs, -9223372036854775808 ≤ x ∧ x ≤ 9223372036854775807) :
    Calls Try.prog 5 #[.slice ao r.length cap, .slice bo bm bcap] w fun e w' => e = .returned (.bool true) ∧ Ch [] w w' := by
  by_cases hbig : 200 < r.length
  · clear hr hin hb hbi
    generalize r.length = n at *
    go_enter Try.func5, Try.ntmps5
    go_wp2_with fail
    go_ret
    exact ⟨rfl, Ch.refl _ _⟩
  · have hn : r.length ≤ 200 := by omega
    by_cases hbm : 1000 < bm
    · clear hr hin hb hbi
      generalize r.length = n at *
      go_enter Try.func5, Try.ntmps5
      go_wp2_with fail
      go_ret
      exact ⟨rfl, Ch.refl _ _⟩
    have HB := Lib.hid hb
    have HBI := Lib.hid hbi
    clear hb hbi
    have HR := Lib.hid hr
    have HI := Lib.hid hin
    have HN0 := Lib.hid hn
    generalize hN : r.length = n at *
    have HN := Lib.hid hN
    clear hr hin hbig
    go_enter Try.func5, Try.ntmps5
    go_wp2_with fail
    refine (known_any w).mono ?_
    rintro e w1 ⟨rfl, c1⟩
    have C1 := Lib.hid c1
    clear c1
    clear hN
    go_wp2_with (at_builtin; refine wpList_append_copy _ rfl _ _ rfl (r := r) (n := n) (ao := ao) (cap := cap) rfl rfl HN.out (HR.out.ch C1.out) (Nat.le_trans HN0.out (by omega)) h0 ?_)
    intro qo bc w2 hrow c2
    have R2 := Lib.hid hrow
    have C2 := Lib.hid (C1.out.trans0 c2)
    clear hrow c2 hcap
    go_wp2_with fail
    go_loopw [7] (fun i wr => ∃ k : Nat, k ≤ n ∧ i = .int .i64 k ∧ Ch [] w wr ∧ (n = 0 ∨ ∃ q off, qo = some ⟨q, off, none⟩ ∧ w.heap.size ≤ q ∧ RowAt wr q off (uncTo 0 r k))) (fun i _ => n - (intOf i).toNat)
    case atStart =>
      refine ⟨0, by omega, rfl, C2.out, ?_⟩
      rcases R2.out with h | ⟨q, off, h1, h2, h3⟩
      · exact .inl h
      · exact .inr ⟨q, off, h1, Nat.le_trans C1.out.size h2, by rw [uncTo_zero]; exact h3⟩
    case round =>
      obtain ⟨k, hk, rfl, c3, hrow⟩ := hrel
      have C3 := Lib.hid c3
      have R3 := Lib.hid hrow
      clear R2 C2 C1
      by_cases hlt : k < n
      · obtain ⟨q, off, rfl, hq, hro⟩ := hrow.resolve_left (by omega)
        have hlen : (uncTo 0 r k).length = n := by rw [uncTo_length]; exact HN.out
        obtain ⟨d1, d2⟩ := hro.cell k 1 (by omega) (by omega)
        have hst := hro.setc k (by omega) 0
        have hg := uncTo_get 0 r k (by rw [HN.out]; exact hlt)
        have hs1 := uncTo_step 0 r k (by rw [HN.out]; exact hlt)
        have hs2 := uncTo_same 0 r k (by rw [HN.out]; exact hlt)
        rw [hg] at d1 hst
        simp only [cel, List.getElem?_cons_zero, List.getElem?_cons_succ, ← Nat.add_assoc] at d1 d2
        generalize hx : r.getD k free = x at *
        obtain ⟨xk, xc, xa, xb⟩ := x
        simp only at d1
        by_cases hc : xc = 1
        · subst hc
          have HS := Lib.hid hst
          have HS1 := Lib.hid hs1
          have HQ := Lib.hid hq
          clear hst hs1 hs2 hx hg hro hrow c3 hlen hq
          go_wp2_with fail
          go_roundw
          case rel => exact ⟨k + 1, by omega, by go_num, C3.out.setCell _ _ (.inr HQ.out), .inr ⟨q, off, rfl, HQ.out, by rw [← HS1.out]; exact HS.out⟩⟩
          case measure => simp [intOf]; omega
        · have hc' : (xc == 1) = false := by simpa using hc
          have HS := Lib.hid (hs2 hc)
          have HQ := Lib.hid hq
          have HO := Lib.hid hro
          clear hst hs1 hs2 hx hg hro hrow c3 hlen hq hc
          go_wp2_with fail
          go_roundw
          case rel => exact ⟨k + 1, by omega, by go_num, C3.out, .inr ⟨q, off, rfl, HQ.out, by rw [← HS.out]; exact HO.out⟩⟩
          case measure => simp [intOf]; omega
      · obtain rfl : k = n := by omega
        clear hrow c3
        go_wp2_with fail
        by_cases h4 : k < 4
        · refine (heap_bad wr qo k bc (.inl h4)).mono ?_
          rintro e w5 ⟨rfl, rfl⟩
          go_wp2_with fail
          go_ret
          exact ⟨rfl, C3.out⟩
        · obtain ⟨q, off, rfl, hq, hro⟩ := R3.out.resolve_left (by omega)
          have hall : uncTo 0 r k = r.map (unc 0) := by rw [← HN.out]; exact uncTo_all 0 r
          rw [hall] at hro
          have hin : ∀ x ∈ r.map (unc 0), InR x := fun x hx => by
            obtain ⟨y, hy, rfl⟩ := List.mem_map.1 hx
            exact unc_in (by omega) (HI.out y hy)
          have hl2 : (r.map (unc 0)).length = k := by rw [List.length_map]; exact HN.out
          have HH := heap_any wr (some ⟨q, off, none⟩) bc (r.map (unc 0)) hin hro.rd (by omega)
          rw [hl2] at HH
          have hng := unc_noGrey (t := 0) (by omega) r
          have hl3 : ((r.map (unc 0)).map norm).length = k := by rw [List.length_map]; exact hl2
          clear hro hin hl2 hall R3 hq HI HR
          generalize (r.map (unc 0)).map norm = l at *
          refine HH.mono ?_
          rintro e w5 ⟨p, s, F, o, rfl, g1, g2, g3, g4, g5⟩
          have cc := C3.out.trans0 g5
          have hf5 : ∀ b ∈ F, w.heap.size ≤ b := fun b hb => Nat.le_trans C3.out.size (g4 b hb).1
          have HJ := J.new g1 cc hf5 [] (fun x hx => by cases hx)
          rw [hl3] at HJ
          clear g1 g2 g3 g4 g5 cc hf5 HH C3
          go_wp2_with fail
          refine HJ.mono ?_
          rintro e w6 ⟨v, rfl, j1⟩
          have J1 := Lib.hid j1
          have NG := Lib.hid hng
          have HL := Lib.hid hl3
          clear j1 hng hl3 HJ
          go_wp2_with fail
          refine J1.out.begin.mono ?_
          rintro e w7 ⟨rfl, j2⟩
          have J2 := Lib.hid j2
          clear j2 J1
          have hmk : ∀ w : World, _ := fun w => run_make_bools w k (by omega)
          go_wp2_with fail
          have j3 : J w (w7.alloc (.cells (bools (List.replicate k false)).toArray 4)) v p s F l 0 0 [(w7.heap.size, .cells (bools (List.replicate k false)).toArray 4 (0, 0))] := by
            have h := J2.out.chg ((Ch.refl [] w7).alloc (.cells (bools (List.replicate k false)).toArray 4))
            refine ⟨h.k, fun x hx => ?_⟩
            simp only [List.mem_singleton] at hx
            subst hx
            exact ⟨heap_new w7 _, fun hm => by have := J2.out.k.is.lt _ hm; simp at this, fun e => by have := lt_of J2.out.k.at'; simp at e; omega⟩
          have HFB := Lib.hid J2.out.k.ch.size
          have J3 := Lib.hid j3
          have hinv := Inv.start NG.out
          rw [HL.out] at hinv
          have IN := Lib.hid hinv
          clear j3 J2 hinv NG hmk
          generalize w7.alloc (.cells (bools (List.replicate k false)).toArray 4) = w8 at *
          generalize w7.heap.size = fb at *
          go_loopw [12] (fun ix wx => ∃ (i : Nat) (F : List Nat) (l : List Cel) (fr : List Bool) (f : Nat), i ≤ k ∧ f ≤ i ∧ ix = .int .i64 i ∧ Inv k i l fr ∧ J w wx v p s F l i f [(fb, .cells (bools fr).toArray 4 (0, 0))]) (fun ix _ => k - (intOf ix).toNat)
          case atStart => exact ⟨0, F, l, List.replicate k false, 0, by omega, by omega, rfl, IN.out, J3.out⟩
          case round =>
            obtain ⟨i, F2, l2, fr2, f2, hi2, hfi, rfl, in2, j2⟩ := hrel
            have J4 := Lib.hid j2
            have I4 := Lib.hid in2
            clear in2 j2 J3 IN HL
            by_cases hik : i < k
            · go_wp2_with fail
              go_loopw [13] (fun kx wx => ∃ (c : Nat) (F : List Nat) (l : List Cel) (fr : List Bool), c ≤ 2 ∧ kx = .int .i64 c ∧ Inv k i l fr ∧ J w wx v p s F l i f2 [(fb, .cells (bools fr).toArray 4 (0, 0))]) (fun kx _ => 2 - (intOf kx).toNat)
              case atStart => exact ⟨0, F2, l2, fr2, by omega, rfl, I4.out, J4.out⟩
              case round =>
                obtain ⟨c, F3, l3, fr3, hc2, rfl, in3, j3⟩ := hrel
                have J5 := Lib.hid j3
                have I5 := Lib.hid in3
                clear in3 j3 J4 I4
                by_cases hgo : c < 2 ∧ 2 * i + c < bm
                · obtain ⟨hc3, hlb⟩ := hgo
                  obtain ⟨hbl, hbr⟩ := HB.out
                  obtain ⟨bb, boff, rfl, hbc⟩ := hbr.resolve_left (by omega)
                  have hcell := J5.out.k.ch.cell (hbc (2 * i + c) hlb) (by simp)
                  have hyb := HBI.out (bs.getD (2 * i + c) 0) (by
                    have : 2 * i + c < bs.length := by omega
                    rw [show bs.getD (2 * i + c) 0 = bs[2 * i + c] by simp [List.getD, this]]; exact List.getElem_mem this)
                  generalize bs.getD (2 * i + c) 0 = y at *
                  have hlbI : (2 : Int) * i + c < bm := by omega
                  have hix : ((2 : Int) * i + c).toNat = 2 * i + c := by omega
                  clear hbc hbr
                  go_wp2_with fail
                  refine (pick_any wr y k hyb (by omega)).mono ?_
                  rintro e wa ⟨⟨m, hmk, rfl⟩, rfl⟩
                  clear hcell
                  go_wp2_with fail
                  refine (At_any wr v p i f2 J5.out.k.at').mono ?_
                  rintro e wa ⟨rfl, rfl⟩
                  have hml : m < l3.length := by rw [I5.out.ll]; exact hmk
                  have hmf : m < fr3.length := by rw [I5.out.lf]; exact hmk
                  have MK := fun (t : Int) (ht : 0 ≤ t ∧ t ≤ 2) => (Make_any wr p s F3 l3 m 2 t 7 7 J5.out.k.is (by omega) (by omega)).mono (fun e w' h => show (∃ F', J w w' v p s F' (make l3 m 2 t 7 7) i f2 [(fb, .cells (bools fr3).toArray 4 (0, 0))]) ∧ e = .returned (.int .i64 (makeE l3 m 2 t)) from ⟨J5.out.to h.2, h.1⟩)
                  have HMK := Lib.hid MK
                  clear MK
                  by_cases him : i ≤ m
                  · have himI : (i : Int) ≤ m := by omega
                    have IM := Lib.hid (I5.out.make m hmk 2 (by rw [if_pos him]))
                    go_wp2_with fail
                    refine (HMK.out 2 (by omega)).mono ?_
                    rintro e wb ⟨⟨F4, j6⟩, rfl⟩
                    rcases make_vals l3 m 2 hml (by omega) with ⟨e1, e2⟩ | ⟨e1, e2⟩
                    · rw [e2] at j6; rw [e1]
                      have J6 := Lib.hid j6
                      clear j6 e1 e2 IM HMK
                      go_wp2_with fail
                      go_roundw
                      case rel => exact ⟨c + 1, F4, l3, fr3, by omega, by go_num, I5.out, J6.out⟩
                      case measure => simp [intOf]; omega
                    · rw [e2] at j6; rw [e1]
                      have q1 := cell_at (i := m) j6.first
                      rw [List.getElem?_toArray, bools_get _ _ hmf] at q1
                      have q2 := free_at (i := m) j6.first
                      have JS := Lib.hid (j6.store m hmf HFB.out)
                      simp only at q1 q2
                      clear j6 e1 e2 HMK
                      go_wp2_with fail
                      go_roundw
                      case rel => exact ⟨c + 1, F4, _, _, by omega, by go_num, IM.out, JS.out⟩
                      case measure => simp [intOf]; omega
                  · have himI : (m : Int) < i := by omega
                    have IM := Lib.hid (I5.out.make m hmk 0 (by rw [if_neg him]))
                    go_wp2_with fail
                    refine (HMK.out 0 (by omega)).mono ?_
                    rintro e wb ⟨⟨F4, j6⟩, rfl⟩
                    rcases make_vals l3 m 0 hml (by omega) with ⟨e1, e2⟩ | ⟨e1, e2⟩
                    · rw [e2] at j6; rw [e1]
                      have J6 := Lib.hid j6
                      clear j6 e1 e2 IM HMK
                      go_wp2_with fail
                      go_roundw
                      case rel => exact ⟨c + 1, F4, l3, fr3, by omega, by go_num, I5.out, J6.out⟩
                      case measure => simp [intOf]; omega
                    · rw [e2] at j6; rw [e1]
                      have q1 := cell_at (i := m) j6.first
                      rw [List.getElem?_toArray, bools_get _ _ hmf] at q1
                      have q2 := free_at (i := m) j6.first
                      have JS := Lib.hid (j6.store m hmf HFB.out)
                      simp only at q1 q2
                      clear j6 e1 e2 HMK
                      go_wp2_with fail
                      go_roundw
                      case rel => exact ⟨c + 1, F4, _, _, by omega, by go_num, IM.out, JS.out⟩
                      case measure => simp [intOf]; omega
                · have hil : i < l3.length := by rw [I5.out.ll]; exact hik
                  have hif : i < fr3.length := by rw [I5.out.lf]; exact hik
                  obtain ⟨ia, ib⟩ := I5.out.ahead i (Nat.le_refl _) hik
                  have ok : OkC (l3.getD i free) := J5.out.k.is.ok _ (by rw [show l3.getD i free = l3[i] by simp [List.getD, hil]]; exact List.getElem_mem hil)
                  have ST := J5.out.step (by omega) (by omega) i (white (l3.getD i free)) 0 (l3.set i (sweep1 (l3.getD i free))) (i + 1) (f2 + if white (l3.getD i free) then 1 else 0) (step_vals l3 i f2 hil ok ib)
                  have IS := Lib.hid (I5.out.step hik)
                  have hfresh : white (l3.getD i free) = true → fr3.getD i false = false := fun hw => by
                    cases hb : fr3.getD i false
                    · rfl
                    · rw [ia hb] at hw; exact absurd hw (by decide)
                  have hle : ∀ b : Bool, f2 + (if b then 1 else 0) ≤ i + 1 := fun b => by split <;> omega
                  have HF := Lib.hid hfresh
                  have HST := Lib.hid ST
                  have HLE := Lib.hid hle
                  have hgo' : (2 : Int) ≤ c ∨ (bm : Int) ≤ 2 * i + c := by omega
                  clear hfresh ia ib ok ST hle hgo
                  generalize hx : l3.getD i free = x at *
                  clear hx
                  have tail : ∀ (b : Bool), b = white x → True := fun _ _ => trivial
                  go_wp2_with fail
                  all_goals (refine HST.out.mono ?_)
                  all_goals (rintro e wz ⟨rfl, F4, j6⟩)
                  all_goals (have q1 := cell_at (i := i) j6.first)
                  all_goals (rw [List.getElem?_toArray, bools_get _ _ hif] at q1)
                  all_goals (have J6 := Lib.hid j6)
                  all_goals (clear j6 HST tail)
                  all_goals (simp only at q1)
                  all_goals (
                    cases hw : white x
                    · have J7 := J6.out
                      rw [hw] at J7
                      have J8 := Lib.hid J7
                      clear J7 J6 q1
                      go_wp2_with fail
                      go_roundw
                      case rel => exact ⟨i + 1, F4, _, _, _, by omega, HLE.out false, by go_num, IS.out, J8.out⟩
                      case measure => simp [intOf]; omega
                    · have J7 := J6.out
                      rw [hw] at J7
                      have J8 := Lib.hid J7
                      have hb := HF.out hw
                      rw [hb] at q1
                      clear J7 J6 hb
                      go_wp2_with fail
                      go_roundw
                      case rel => exact ⟨i + 1, F4, _, _, _, by omega, HLE.out true, by go_num, IS.out, J8.out⟩
                      case measure => simp [intOf]; omega)
            · obtain rfl : i = k := by omega
              have SN := J4.out.snapshot i I4.out.ll
              have AL := Lib.hid (fun j (hj : j < i) => I4.out.behind j hj hj)
              go_wp2_with fail
              refine SN.mono ?_
              rintro e wa ⟨o3, rfl, j6, _⟩
              have J6 := Lib.hid j6
              have L4 := Lib.hid I4.out.ll
              have L5 := Lib.hid I4.out.lf
              clear j6 SN J4 I4
              go_wp2_with fail
              go_loopw [20] (fun jx wx => ∃ j : Nat, j ≤ i ∧ jx = .int .i64 j ∧ J w wx v p s F2 l2 i f2 [(o3, .cells (flat l2).toArray 29 (0, 0)), (fb, .cells (bools fr2).toArray 4 (0, 0))]) (fun jx _ => i - (intOf jx).toNat)
              case atStart => exact ⟨0, by omega, rfl, J6.out⟩
              case round =>
                obtain ⟨j, hj, rfl, j7⟩ := hrel
                have J7 := Lib.hid j7
                clear J6
                by_cases hji : j < i
                · have hjl : j < l2.length := by rw [L4.out]; exact hji
                  have hjf : j < fr2.length := by rw [L5.out]; exact hji
                  have q1 := cell_at (i := j) j7.drop1.first
                  rw [List.getElem?_toArray, bools_get _ _ hjf] at q1
                  simp only at q1
                  have hA : ∀ t, t < 4 → wr.cell? ⟨o3, j * 4 + t, none⟩ = (cel (l2.getD j free)).toList[t]? := fun t ht => (cell_at j7.first).trans (by rw [List.getElem?_toArray]; exact flat_get l2 j t hjl ht)
                  obtain ⟨al, _⟩ := AL.out j hji
                  cases hb : fr2.getD j false
                  · rw [hb] at q1
                    clear hA al j7 hjl hjf
                    go_wp2_with fail
                    go_roundw
                    case rel => exact ⟨j + 1, by omega, by go_num, J7.out⟩
                    case measure => simp [intOf]; omega
                  · rw [hb] at q1
                    have hx := al hb
                    rw [hx] at hA
                    have a0 := hA 0 (by omega)
                    have a1 := hA 1 (by omega)
                    have a2 := hA 2 (by omega)
                    have a3 := hA 3 (by omega)
                    simp only [cel, List.getElem?_cons_zero, List.getElem?_cons_succ, Nat.add_zero] at a0 a1 a2 a3
                    clear hA al j7 hjl hjf hx
                    go_wp2_with fail
                    go_roundw
                    case rel => exact ⟨j + 1, by omega, by go_num, J7.out⟩
                    case measure => simp [intOf]; omega
                · obtain rfl : j = i := by omega
                  have OkL := Lib.hid j7.k.is.ok
                  clear j7
                  have NG : NoGrey l2 := by
                    intro x hx
                    obtain ⟨n, hn, rfl⟩ := List.mem_iff_getElem.1 hx
                    have := (AL.out n (by rw [← L4.out]; exact hn)).2
                    rw [show l2.getD n free = l2[n] by simp [List.getD, hn]] at this
                    omega
                  have G2 := Lib.hid NG
                  clear NG
                  go_wp2_with fail
                  refine J7.out.begin.mono ?_
                  rintro e wb ⟨rfl, j8⟩
                  have J8 := Lib.hid j8
                  clear j8 J7
                  go_wp2_with fail
                  go_loopw [21] (fun mx wx => ∃ (m : Nat) (F3 : List Nat), m ≤ j ∧ mx = .int .i64 m ∧ J w wx v p s F3 (swept l2 m) m (freedTo l2 m) [(o3, .cells (flat l2).toArray 29 (0, 0))]) (fun mx _ => j - (intOf mx).toNat)
                  case atStart => exact ⟨0, F2, by omega, rfl, by rw [swept_zero, freedTo_zero]; exact ⟨J8.out.k, fun x hx => J8.out.ob x (by simp at hx; subst hx; simp)⟩⟩
                  case round =>
                    obtain ⟨m, F3, hm, rfl, j9⟩ := hrel
                    have J9 := Lib.hid j9
                    clear j9 J8
                    by_cases hlm : m < j
                    · have hml : m < l2.length := by rw [L4.out]; exact hlm
                      have st := sweep_step l2 OkL.out G2.out m hml
                      have f1le := freedTo_le l2 m
                      rw [L4.out] at f1le
                      have q0 := flat_get l2 m 0 hml (by omega)
                      have ST := J9.out.step (by omega) (by omega) m (white (l2.getD m free)) 0 (swept l2 (m + 1)) (m + 1) (freedTo l2 (m + 1)) st
                      have hc0 := (AL.out m hlm).2
                      have HST := Lib.hid ST
                      have HQ0 := Lib.hid q0
                      clear st ST hml q0
                      generalize hx : l2.getD m free = x at *
                      clear hx
                      go_wp2_with fail
                      refine HST.out.mono ?_
                      rintro e wz ⟨rfl, F4, j6⟩
                      have d0 : wz.cell? ⟨o3, m * 4, none⟩ = some (.int .u8 x.k) := (cell_at j6.first).trans (by have := HQ0.out; simpa [cel] using this)
                      have J6 := Lib.hid j6
                      clear j6 HST HQ0 J9
                      by_cases hk0 : x.k = 0
                      · have hk' : (x.k != 0) = false := by simp [hk0]
                        have hw : white x = false := by simp [white, hk0]
                        rw [hw]
                        clear hk0 hw hc0
                        generalize x.k = xk at *
                        go_wp2_with fail
                        go_roundw
                        case rel => exact ⟨m + 1, F4, by omega, by go_num, J6.out⟩
                        case measure => simp [intOf]; omega
                      · have hk' : (x.k != 0) = true := by simpa using hk0
                        have hw : white x = true := by simp [white, hc0]; exact hk0
                        rw [hw]
                        clear hk0 hw hc0
                        generalize x.k = xk at *
                        go_wp2_with fail
                        go_roundw
                        case rel => exact ⟨m + 1, F4, by omega, by go_num, J6.out⟩
                        case measure => simp [intOf]; omega
                    · have C := Lib.hid J9.out.k.ch
                      obtain rfl : m = j := by omega
                      clear J9
                      go_wp2_with fail
                      go_ret
                      exact ⟨rfl, C.out⟩
end Go.Proofs.Ytkcplmablelmbaa.Sw
