/-
  THE WALK of MarkReach.
-/
import Derived.Test.YtefamhdkfdgdjaaDoorQMRun2
import Derived.Test.YtefamhdkfdgdjaaDoorQLaw15
import Derived.Test.YtefamhdkfdgdjaaDoorQPlain
import Derived.Deep.DeepCutAuto
import Derived.Deep.CutBlock
set_option linter.unusedVariables false
set_option linter.unusedSimpArgs false
set_option maxRecDepth 100000
namespace Go.Proofs.YtefamhdkfdgdjaaDoor.L15
open Go.RowKit Go.Proofs.YtefamhdkfdgdjaaDoor.Wd Go.Proofs.YtefamhdkfdgdjaaDoor.Hp Go.Proofs.YtefamhdkfdgdjaaDoor.Cp Go.Proofs.YtefamhdkfdgdjaaDoor.Cl Go.Proofs.YtefamhdkfdgdjaaDoor.Mk Go.Proofs.YtefamhdkfdgdjaaDoor.R03 Go.Proofs.YtefamhdkfdgdjaaDoor.Mr Go.Proofs.YtefamhdkfdgdjaaDoor.Sm
theorem plain_in (cs : List Cel) (hi : ∀ x ∈ cs, InC x) : ∀ x ∈ plainK cs 16, InC x := by
  intro x hx
  unfold plainK at hx
  obtain ⟨i, hi1, rfl⟩ := List.mem_map.1 hx
  have hf : InC free := by unfold InC free; simp
  have hin : InC (cs.getD i free) := by
    by_cases h : i < cs.length
    · rw [show cs.getD i free = cs[i] by simp [List.getD_eq_getElem?_getD, h]]; exact hi _ (List.getElem_mem h)
    · rw [List.getD_eq_getElem?_getD, List.getElem?_eq_none (by omega)]; exact hf
  unfold plainC
  split
  · obtain ⟨i1, i2, i3, i4, i5, i6⟩ := hin
    have hfx : ∀ v : Int, (0 ≤ v ∧ v < 18446744073709551616) → (0 ≤ fixW v ∧ fixW v < 18446744073709551616) := fun v hv => by
      unfold fixW; split
      · omega
      · exact hv
    exact ⟨i1, i2, show (0 : Int) ≤ 0 by omega, show (0 : Int) < 256 by omega, hfx _ i5, hfx _ i6⟩
  · exact hf
set_option maxHeartbeats 4000000 in
theorem MarkReach_big (w : World) (ao : Option Addr) (n cap : Nat) (aw : Option Addr) (m cw : Nat) (hm : m ≤ 140737488351232) (ar : Option Addr) (m2 cr : Nat) (hm2 : m2 ≤ 140737488351232) (when_ : Int) (hb : Bnd w) (hbig : 20000 < m + m2) :
    Calls Tryd.prog 5 #[.slice ao n cap, .slice aw m cw, .slice ar m2 cr, .int .i64 when_] w fun e w' => e = .returned (.bool true) ∧ Ch [] w w' := by
  have K := works_any w hb
  have hbI : (20000 : Int) < (m : Int) + (m2 : Int) := by omega
  clear hb hbig
  go_enter Tryd.func5, Tryd.ntmps5
  go_wp2_with fail
  refine K.mono ?_
  rintro e w2 ⟨rfl, c2⟩
  clear K
  go_wp2_with fail
  go_ret
  exact ⟨rfl, c2⟩
set_option maxHeartbeats 16000000 in
theorem MarkReach_small (w : World) (ao : Option Addr) (n cap : Nat) (cs : List Cel) (hl : cs.length = n) (hn : n ≤ 140737488351232) (hr : Hp.Rd w ao (n * 4) (Cl.flat cs)) (hi : ∀ x ∈ cs, InC x)
    (aw : Option Addr) (m cw : Nat) (ws : List Int) (hrw : Hp.Rd w aw m (ints .u64 ws)) (hu : ∀ v ∈ ws, 0 ≤ v ∧ v < 18446744073709551616)
    (ar : Option Addr) (m2 cr : Nat) (more : List Int) (hrm : Hp.Rd w ar m2 (ints .u64 more)) (hu2 : ∀ v ∈ more, 0 ≤ v ∧ v < 18446744073709551616) (hms : m + m2 ≤ 20000) (when_ : Int) (hwn : -9223372036854775808 ≤ when_ ∧ when_ ≤ 9223372036854775807) (hb : Bnd w) :
    Calls Tryd.prog 5 #[.slice ao n cap, .slice aw m cw, .slice ar m2 cr, .int .i64 when_] w fun e w' => e = .returned (.bool true) ∧ Ch [] w w' := by
  obtain ⟨i0, hi0, he0⟩ := Option.map_eq_some_iff.1 infoInt
  simp only [Prod.mk.injEq] at he0
  obtain ⟨hz0, hz1, hz2⟩ := he0
  obtain ⟨i1, hi1, he1⟩ := Option.map_eq_some_iff.1 Gr.infoWord
  simp only [Prod.mk.injEq] at he1
  obtain ⟨hy0, hy1, hy2⟩ := he1
  have K := works_any w hb
  have hbI : (decide ((20000 : Int) < (m : Int) + (m2 : Int))) = false := by simp; omega
  have hm20 : m ≤ 20000 := by omega
  have hm220 : m2 ≤ 20000 := by omega
  have HMS := Lib.hid hms
  clear hms
  have HP := Lib.hid hr
  have HL := Lib.hid hl
  have HN := Lib.hid hn
  have HIC := Lib.hid hi
  have HPC := Lib.hid (plain_in cs hi)
  have HRW := Lib.hid hrw
  have HRM := Lib.hid hrm
  have HU := Lib.hid hu
  have HU2 := Lib.hid hu2
  have HB := Lib.hid hb
  have HPK := Lib.hid (plain_ok cs)
  have HMP := Lib.hid (made_plain cs)
  clear hr hrw hrm hu hu2 hi hl hb hn
  go_enter Tryd.func5, Tryd.ntmps5
  go_wp2_with fail
  refine K.mono ?_
  rintro e w2 ⟨rfl, c2⟩
  have C2 := Lib.hid c2
  have P := plain_any w2 ao n cap cs HL.out HN.out (HP.out.ch c2) HIC.out (Bnd.ch HB.out c2 (by simp))
  clear K c2
  go_wp2_with fail
  refine P.mono ?_
  rintro e w3 ⟨vp, qp, rfl, g1, g2, g3⟩
  obtain ⟨ap, cp, rfl, _, _, p3⟩ := g1.rd
  have C3 := Lib.hid (C2.out.trans' g2)
  have HPR := Lib.hid p3
  have M := made_any w3 ap 16 cp (plainK cs 16) HPK.out.len (by omega) p3 HPC.out
  rw [HMP.out] at M
  clear P g1 g2 g3 p3
  obtain ⟨pl, hpl⟩ : ∃ pl, pl = plainK cs 16 := ⟨_, rfl⟩
  rw [← hpl] at M HPK HPR HPC
  clear hpl HMP HP HL HN HIC
  clear cs
  go_wp2_with fail
  refine M.mono ?_
  rintro e w4 ⟨p, s, F, rp, rb, rfl, hh⟩
  have H4 := Lib.hid hh
  have N := Mk.New_any w4 p s F pl hh.is
  clear M hh
  go_wp2_with fail
  refine N.mono ?_
  rintro e w5 ⟨rfl, g1, g2⟩
  have C5 := Lib.hid (H4.out.ch.trans' g2)
  obtain ⟨mp, hmp⟩ : ∃ mp, mp = w4.heap.size := ⟨_, rfl⟩
  rw [← hmp] at g1 ⊢
  have HMPL : Hid (w3.heap.size ≤ mp) := Lib.hid (by rw [hmp]; exact H4.out.ch.size)
  have HB3 : Hid (Bnd w3) := Lib.hid (Bnd.ch HB.out C3.out (by simp))
  have HM5 := Lib.hid g1
  have HOB : Hid (∀ b, b < w3.heap.size → b ∉ [mp, s]) := Lib.hid (fun b hb hm => by
    have := H4.out.fnew s H4.out.is.sf
    have := HMPL.out
    simp at hm; omega)
  have S := Mk.Shade_any w5 mp p s F pl [] [] aw m cw ws g1 (rd_old (HRW.out.ch C3.out) C5.out HOB.out) (by simp; omega) HU.out (Bnd.ch HB3.out C5.out (by simp)) (HOB.out _ (World.block_lt_of_cell? w3 _ (HB3.out 0 (by omega)).1))
  clear N g1 g2 hmp
  go_wp2_with fail
  refine S.mono ?_
  rintro e w6 ⟨v, qs, F', rq', rfl, g1, g2, g3, g4, g5, g6⟩
  have HST := Lib.hid (ST.start HPK.out C5.out ⟨HMPL.out, H4.out.fnew⟩ H4.out.is.sf g2 g3 g4 g5 g1 g6)
  clear S g1 g2 g3 g4 g5 g6
  obtain ⟨l, hl⟩ : ∃ l, l = (shS pl ws).1 := ⟨_, rfl⟩
  obtain ⟨R, hR⟩ : ∃ R, R = (shS pl ws).2 := ⟨_, rfl⟩
  rw [← hl, ← hR] at HST
  clear hl hR
  go_upto_if 52 with fail
  go_cut [3] (fun v wx => ∃ kw : Int, v = .int .i64 kw ∧ 0 ≤ kw ∧ kw ≤ 9223372036854775807 ∧ wx = w6)
  case first =>
    by_cases hc : when_ < 0
    · have hcb : (decide (when_ < 0)) = true := by simpa using hc
      have a1 : wrap64 (when_ + 1) = when_ + 1 := by unfold wrap64; omega
      have a2 : wrap64 (-(when_ + 1)) = -(when_ + 1) := by unfold wrap64; omega
      go_wp2_with fail
      go_meet
      exact ⟨_, rfl, by omega, by omega, rfl⟩
    · have hcb : (decide (when_ < 0)) = false := by simpa using hc
      go_wp2_with fail
      go_meet
      exact ⟨_, rfl, by omega, by omega, rfl⟩
  case rest =>
    obtain ⟨kw, rfl, k0, k1, rfl⟩ := hcut
    have a3 : kw.tmod 17 = kw % 17 := Int.tmod_eq_emod_of_nonneg k0
    have a4 : wrap64 (kw % 17) = kw % 17 := by unfold wrap64; omega
    obtain ⟨kk, hkk⟩ : ∃ kk, kk = kw % 17 := ⟨_, rfl⟩
    rw [← hkk] at a3 a4
    clear hkk
    go_wp2_with fail
    go_loopw [17, 16, 15, 14] (fun r nn lt rv wr => ∃ (rd k : Nat) (lb : Bool) (F rq : List Nat) (l : List Cel) (R : List Int) (ro : List Nat), r = .int .i64 rd ∧ nn = .int .i64 k ∧ lt = .bool lb ∧ rd ≤ k + (if lb then 1 else 0) ∧ ST w3 wr mp p s F rq pl (ws ++ if lb then more else []) l R k rv ro) (fun r _ _ _ _ => 35 - (intOf r).toNat)
    case atStart => exact ⟨0, 0, false, F', rq', l, R, qs, rfl, rfl, rfl, by simp, by simpa using HST.out⟩
    case round =>
      obtain ⟨rd, k, lb, F2, rq2, l2, R2, ro2, rfl, rfl, rfl, hrd, hst⟩ := hrel
      have hle := hst.mi.le
      have hsm := hst.mi.small
      rw [HPK.out.len] at hsm
      have hif : (if lb = true then 1 else 0) ≤ 1 := by split <;> omega
      have hg : (rd : Int) ≤ 34 := by omega
      have kr : k ≤ 16 := by omega
      have HRD := Lib.hid hrd
      have HS2 := Lib.hid hst
      obtain ⟨ao1, cap1, rfl, _, _, _⟩ := hst.row.rd
      obtain ⟨nR, hnR⟩ : ∃ nR, nR = R2.length := ⟨_, rfl⟩
      rw [← hnR] at hsm ⊢
      have HNR := Lib.hid hnR
      clear hrd hst hif hnR hle
      go_upto_region 20 with fail
      go_cut [68] (fun b wx => ∃ sb : Bool, b = .bool sb ∧ (sb = true → lb = false) ∧ wx = wr)
      case first =>
        by_cases hk : (k : Int) = kk
        · have hkb : ((k : Int) == kk) = true := by simpa using hk
          clear hk
          cases lb with
          | true =>
            go_wp2_with fail
            go_meet
            exact ⟨false, rfl, by simp, rfl⟩
          | false =>
            go_wp2_with fail
            go_meet
            exact ⟨true, rfl, by simp, rfl⟩
        · have hkb : ((k : Int) == kk) = false := by simpa using hk
          clear hk
          go_wp2_with fail
          go_meet
          exact ⟨false, rfl, by simp, rfl⟩
      case rest =>
      obtain ⟨sb, rfl, hsb, rfl⟩ := hcut
      go_upto_if 68 with fail
      go_cut [14, 15, 16] (fun rv lt nn wx => ∃ (lb : Bool) (F rq : List Nat) (l : List Cel) (R : List Int) (ro : List Nat), lt = .bool lb ∧ nn = .int .i64 k ∧ rd ≤ k + (if lb then 1 else 0) ∧ ST w3 wx mp p s F rq pl (ws ++ if lb then more else []) l R k rv ro)
      case first =>
        cases sb with
        | false =>
          go_wp2_with fail
          go_meet
          exact ⟨lb, F2, rq2, l2, R2, ro2, rfl, rfl, HRD.out, HNR.out ▸ HS2.out⟩
        | true =>
          obtain rfl : lb = false := hsb rfl
          clear hsb
          have ShA := HS2.out.shade HPK.out.len ar m2 cr more hm220 (HRM.out.ch C3.out) HU2.out HB3.out
          go_wp2_with fail
          refine ShA.mono ?_
          rintro e wA ⟨v2, qs2, F3, rq3, rfl, g1, g2, g3, g4, g5, g6⟩
          have HRA := HS2.out.row2 g3
          rw [← HNR.out] at HRA
          obtain ⟨a3, c3, rfl, _, _, hrd3⟩ := g1.rd
          have HRD3 := Lib.hid hrd3
          have HR1 := Lib.hid HRA
          have HZ := Lib.hid (fun w4 rv2 ro2' => HS2.out.shaded (w4 := w4) (rv2 := rv2) (ro2 := ro2') g2 g3 g4 g5)
          have hno := shS_len l2 more
          have hml : more.length = m2 := by have := HRM.out.1; simpa [ints] using this
          rw [hml] at hno
          have H1C := Lib.hid (ints_one .i64 (shS l2 more).2)
          rw [← HNR.out] at HZ
          generalize (shS l2 more).2.length = no at *
          clear ShA g1 g2 g3 g4 g5 g6 HRA hrd3 hml
          go_wp2_with (at_builtin; go_loud (refine wpList_append_list _ rfl _ _ 26 rfl 3 i0 _ 1 8 Tryd.underlying26 hi0 hz0 hz1 hz2 rfl (by decide) rfl HR1.out a3 no c3 rfl (ints .i64 (shS l2 more).2) (by first | exact HRD3.out | (have := HRD3.out; rwa [Nat.mul_one])) H1C.out (by unfold maxLen; omega) (by omega) ?_))
          intro v' w4 ro4 hr4 hc4 hq4
          have Z := Lib.hid (HZ.out w4 v' ro4 hr4 hc4 hq4)
          obtain ⟨ao4, cap4, rfl, _⟩ := hr4.rd
          clear hr4 hc4 hq4
          go_wp2_with fail
          go_meet
          exact ⟨true, F3, rq3, _, _, ro4, rfl, rfl, by have := HRD.out; simp at this ⊢; omega, by have := Z.out; simpa using this⟩
      case rest =>
        obtain ⟨lb3, F3, rq3, l3, R3, ro3, rfl, rfl, hrd3, hst3⟩ := hcut
        clear HRD HS2 HNR hsb
        have HRD := Lib.hid hrd3
        have HS3 := Lib.hid hst3
        obtain ⟨ao3, cap3, rfl, _, _, _⟩ := hst3.row.rd
        have hsm3 := hst3.mi.small
        rw [HPK.out.len] at hsm3
        obtain ⟨nR3, hnR3⟩ : ∃ nR, nR = R3.length := ⟨_, rfl⟩
        rw [← hnR3] at hsm3 ⊢
        have HNR := Lib.hid hnR3
        clear hrd3 hst3 hnR3
        by_cases hn : k < nR3
        · have hnI : (k : Int) < nR3 := by omega
          have hnR : k < R3.length := by rw [← HNR.out]; exact hn
          have HHN := Lib.hid hnR
          have SC := HS3.out.scan HPK.out.len hnR HB3.out
          have hlo : (scanC l3 (R3.getD k 0)).2.length ≤ 16 := by
            have h1 := (HS3.out.mi.scan hnR).small
            rw [HPK.out.len, List.length_append] at h1
            omega
          obtain ⟨x, hx⟩ : ∃ x, x = R3.getD k 0 := ⟨_, rfl⟩
          have HX := Lib.hid hx
          rw [← hx] at SC hlo
          clear hnR hx
          go_wp2_with fail
          refine SC.mono ?_
          rintro e w7 ⟨v3, qs3, F5, rq5, rfl, g1, g2, g3, g4, g5, g6⟩
          have AP := apart_any w7 p s F5 _ g2.is (Bnd.ch HB3.out (HS3.out.ch.trans g3 (fun b hb => .inr (by
            rcases Nat.lt_or_ge b w3.heap.size with h | h
            · exact absurd hb (HS3.out.old h)
            · exact h))) (by simp)) (by have := mi_apart (HS3.out.mi.scan HHN.out); rwa [← HX.out] at this)
          have HG1 := Lib.hid g1
          have HG2 := Lib.hid g2
          have HG3 := Lib.hid g3
          have HG4 := Lib.hid g4
          have HG5 := Lib.hid g5
          obtain ⟨a3, c3, rfl, _, _, q3⟩ := g1.rd
          have HQ3 := Lib.hid q3
          clear q3
          clear SC g1 g2 g3 g4 g5 g6
          go_wp2_with fail
          refine AP.mono ?_
          rintro e w8 ⟨rfl, c8⟩
          have HR8 := Lib.hid ((HS3.out.row2 HG3.out).ch c8 (by simp))
          rw [← HNR.out] at HR8
          obtain ⟨a3', c3', hv8, _, _, hrd8⟩ := HR8.out.rd
          obtain ⟨bw, ow, hw8, hc8⟩ := hrd8.2.resolve_left (by omega)
          simp only [Value.slice.injEq, true_and] at hv8
          obtain ⟨rfl, rfl⟩ := hv8
          subst hw8
          have a1 : w8.cell? ⟨bw, ow + k, none⟩ = some (.int .i64 x) := by
            rw [hc8 k (by omega), HX.out]
            exact ints_get HHN.out
          have HRD3 := Lib.hid (HQ3.out.ch c8)
          have HC8 := Lib.hid c8
          have HZ := Lib.hid (fun w4 rv2 ro2' => HS3.out.scanned HHN.out (w4 := w4) (rv2 := rv2) (ro2 := ro2') (by rw [← HX.out]; exact HG2.out.ch0 HC8.out) (HG3.out.trans HC8.out (by simp)) HG4.out HG5.out)
          rw [← HX.out, ← HNR.out] at HZ
          clear AP hc8 hrd8 c8
          have HR1 := HR8
          have H1C := Lib.hid (ints_one .i64 (scanC l3 x).2)
          generalize (scanC l3 x).2.length = no at *
          go_wp2_with (at_builtin; go_loud (refine wpList_append_list _ rfl _ _ 26 rfl 3 i0 _ 1 8 Tryd.underlying26 hi0 hz0 hz1 hz2 rfl (by decide) rfl HR1.out a3 no c3 rfl (ints .i64 (scanC l3 x).2) (by first | exact HRD3.out | (have := HRD3.out; rwa [Nat.mul_one])) H1C.out (by unfold maxLen; omega) (by omega) ?_))
          intro v' w9 ro4 hr4 hc4 hq4
          have Z := Lib.hid (HZ.out w9 v' ro4 hr4 hc4 hq4)
          obtain ⟨ao4, cap4, rfl, _⟩ := hr4.rd
          clear hr4 hc4 hq4
          go_wp2_with fail
          go_roundw
          case rel => exact ⟨rd + 1, k + 1, lb3, F5, rq5, _, _, ro4, by go_num, by go_num, rfl, by have := HRD.out; omega, Z.out⟩
          case measure => simp [intOf]; omega
        · have hnI : ¬ (k : Int) < nR3 := by omega
          have hnR : ¬ k < R3.length := by rw [← HNR.out]; exact hn
          have hke : Hid (k = R3.length) := Lib.hid (by have := HS3.out.mi.le; omega)
          have SC := HS3.out.scan0 hnR
          have AP := apart_any wc p s F3 _ HS3.out.mm.is (Bnd.ch HB3.out HS3.out.ch (by simp)) (mi_apart HS3.out.mi)
          clear hnR hn
          go_wp2_with fail
          refine SC.mono ?_
          rintro e w7 ⟨rfl, rfl⟩
          clear SC
          go_wp2_with fail
          refine AP.mono ?_
          rintro e w8 ⟨rfl, c8⟩
          have HS8 := Lib.hid (HS3.out.chs c8)
          clear AP c8
          cases lb3 with
          | true =>
            have HRW8 := Lib.hid ((HRW.out.ch C3.out).ch HS8.out.ch)
            have HRM8 := Lib.hid ((HRM.out.ch C3.out).ch HS8.out.ch)
            have H1W := Lib.hid (ints_one .u64 ws)
            have H1M := Lib.hid (ints_one .u64 more)
            go_upto_region 33 with fail
            go_wp2_with (at_builtin; go_loud (refine wpList_append_copy _ rfl _ _ 25 rfl 29 i1 _ 1 8 Tryd.underlying25 hi1 hy0 hy1 hy2 rfl (by decide) rfl aw m cw rfl (ints .u64 ws) (by have := HRW8.out; rwa [Nat.mul_one]) H1W.out (by unfold maxLen; omega) (by omega) ?_))
            intro v9 w9 q9 hr9 hc9 hq9
            obtain ⟨ao9, cap9, rfl, _⟩ := hr9.rd
            have HR9 := Lib.hid hr9
            have HC9 := Lib.hid hc9
            have HQ9 := Lib.hid hq9
            have HRM9 := Lib.hid (HRM8.out.ch hc9)
            clear hr9 hc9 hq9
            go_wp2_with (at_builtin; go_loud (refine wpList_append_list _ rfl _ _ 25 rfl 29 i1 _ 1 8 Tryd.underlying25 hi1 hy0 hy1 hy2 rfl (by decide) rfl HR9.out ar m2 cr rfl (ints .u64 more) (by have := HRM9.out; rwa [Nat.mul_one]) H1M.out (by unfold maxLen; omega) (by omega) ?_))
            intro v10 w10 q10 hr10 hc10 hq10
            obtain ⟨aoT, capT, rfl, _, _, rdT⟩ := hr10.rd
            have c10 : Ch [] w8 w10 := HC9.out.trans hc10 (fun x hx => .inr (by
              rcases HQ9.out with e | ⟨q', e, h1, h2⟩
              · rw [e] at hx; simp at hx
              · rw [e] at hx; simp at hx; omega))
            have hS := HS8.out
            have hmm := hS.mm.ch0 c10
            rw [show R3.drop k = [] from List.drop_eq_nil_of_le (by have := hke.out; omega)] at hmm
            have hmi := hS.mi
            rw [hke.out] at hmi
            simp only [if_true] at hmi
            have BL := black_any w10 mp p s F3 l3 rq3 hmm pl ap cp HPK.out ((HPR.out.ch hS.ch).ch c10) HPC.out (ws ++ more) aoT (m + m2) capT (by rw [show ints .u64 (ws ++ more) = ints .u64 ws ++ ints .u64 more by simp [ints]]; simpa using rdT) (fun v hv => (List.mem_append.1 hv).elim (HU.out v) (HU2.out v)) (by have := HMS.out; omega) R3 hmi (Bnd.ch HB3.out (hS.ch.trans' c10) (by simp))
            rw [← HNR.out] at BL
            have HC10 := Lib.hid (C3.out.trans' (hS.ch.trans' c10))
            clear hr10 hc10 hq10 rdT hS hmm hmi c10
            go_wp2_with fail
            refine BL.mono ?_
            rintro e w11 ⟨rfl, c11⟩
            go_wp2_with fail
            go_ret
            exact ⟨rfl, HC10.out.trans' c11⟩
          | false =>
            have ShA := HS8.out.shade HPK.out.len ar m2 cr more hm220 (HRM.out.ch C3.out) HU2.out HB3.out
            go_wp2_with fail
            refine ShA.mono ?_
            rintro e wA ⟨v2, qs2, F5, rq5, rfl, g1, g2, g3, g4, g5, g6⟩
            have HRA := HS8.out.row2 g3
            rw [← HNR.out] at HRA
            obtain ⟨a3, c3, rfl, _, _, q3⟩ := g1.rd
            have HRD3 := Lib.hid q3
            have HR1 := Lib.hid HRA
            have HZ := Lib.hid (fun w4 rv2 ro2' => HS8.out.shaded (w4 := w4) (rv2 := rv2) (ro2 := ro2') g2 g3 g4 g5)
            have hno := shS_len l3 more
            have hml : more.length = m2 := by have := HRM.out.1; simpa [ints] using this
            rw [hml] at hno
            have H1C := Lib.hid (ints_one .i64 (shS l3 more).2)
            rw [← HNR.out] at HZ
            generalize (shS l3 more).2.length = no at *
            clear ShA g1 g2 g3 g4 g5 g6 HRA q3 hml
            go_wp2_with (at_builtin; go_loud (refine wpList_append_list _ rfl _ _ 26 rfl 3 i0 _ 1 8 Tryd.underlying26 hi0 hz0 hz1 hz2 rfl (by decide) rfl HR1.out a3 no c3 rfl (ints .i64 (shS l3 more).2) (by first | exact HRD3.out | (have := HRD3.out; rwa [Nat.mul_one])) H1C.out (by unfold maxLen; omega) (by omega) ?_))
            intro v' w4 ro4 hr4 hc4 hq4
            have Z := Lib.hid (HZ.out w4 v' ro4 hr4 hc4 hq4)
            obtain ⟨ao4, cap4, rfl, _⟩ := hr4.rd
            clear hr4 hc4 hq4
            go_wp2_with fail
            go_roundw
            case rel => exact ⟨rd + 1, k, true, F5, rq5, _, _, ro4, by go_num, rfl, rfl, by have := HRD.out; simp at this ⊢; omega, by have := Z.out; simpa using this⟩
            case measure => simp [intOf]; omega
theorem MarkReach_any (w : World) (ao : Option Addr) (n cap : Nat) (cs : List Cel) (hl : cs.length = n) (hn : n ≤ 140737488351232) (hr : Hp.Rd w ao (n * 4) (Cl.flat cs)) (hi : ∀ x ∈ cs, InC x)
    (aw : Option Addr) (m cw : Nat) (ws : List Int) (hm : m ≤ 140737488351232) (hrw : Hp.Rd w aw m (ints .u64 ws)) (hu : ∀ v ∈ ws, 0 ≤ v ∧ v < 18446744073709551616)
    (ar : Option Addr) (m2 cr : Nat) (more : List Int) (hm2 : m2 ≤ 140737488351232) (hrm : Hp.Rd w ar m2 (ints .u64 more)) (hu2 : ∀ v ∈ more, 0 ≤ v ∧ v < 18446744073709551616) (when_ : Int) (hwn : -9223372036854775808 ≤ when_ ∧ when_ ≤ 9223372036854775807) (hb : Bnd w) :
    Calls Tryd.prog 5 #[.slice ao n cap, .slice aw m cw, .slice ar m2 cr, .int .i64 when_] w fun e w' => e = .returned (.bool true) ∧ Ch [] w w' := by
  by_cases h : 20000 < m + m2
  · exact MarkReach_big w ao n cap aw m cw hm ar m2 cr hm2 when_ hb h
  · exact MarkReach_small w ao n cap cs hl hn hr hi aw m cw ws hrw hu ar m2 cr more hrm hu2 (by omega) when_ hwn hb
end Go.Proofs.YtefamhdkfdgdjaaDoor.L15
