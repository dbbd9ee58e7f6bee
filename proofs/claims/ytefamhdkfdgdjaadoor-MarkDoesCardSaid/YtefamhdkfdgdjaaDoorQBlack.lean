/-
  THE WALK of dapplelaw15.black, its first loop: the roots that are words of the heap.
-/
import Derived.Test.YtefamhdkfdgdjaaDoorQMReachP3
import Derived.Test.YtefamhdkfdgdjaaDoorQJReachP
import Derived.BigQuiet
import Derived.Deep.RegionWith
set_option linter.unusedVariables false
set_option linter.unusedSimpArgs false
set_option maxRecDepth 100000
namespace Go.Proofs.YtefamhdkfdgdjaaDoor.L15
open Go.RowKit Go.Proofs.YtefamhdkfdgdjaaDoor.Wd Go.Proofs.YtefamhdkfdgdjaaDoor.Hp Go.Proofs.YtefamhdkfdgdjaaDoor.Cp Go.Proofs.YtefamhdkfdgdjaaDoor.Cl Go.Proofs.YtefamhdkfdgdjaaDoor.Mk Go.Proofs.YtefamhdkfdgdjaaDoor.R03 Go.Proofs.YtefamhdkfdgdjaaDoor.Mr Go.Proofs.YtefamhdkfdgdjaaDoor.Sm
theorem rootsOf_next (p : List Cp.Cel) (all : List Int) (j : Nat) (hj : j < all.length) : rootsOf p (all.take (j + 1)) = rootsOf p (all.take j) ++ (if rootOk p (all.getD j 0) = true then [all.getD j 0] else []) := by
  unfold rootsOf
  rw [Mk.take_snoc all j 0 hj, List.filter_append]
  congr 1
  generalize all.getD j 0 = v
  by_cases h : rootOk p v = true <;> simp [h]
theorem rootsOf_len (p : List Cp.Cel) (all : List Int) (j : Nat) : (rootsOf p (all.take j)).length ≤ j := by
  unfold rootsOf
  have := List.length_filter_le (rootOk p) (all.take j)
  rw [List.length_take] at this
  omega
set_option maxHeartbeats 8000000 in
theorem black_any (w : World) (mp p s : Nat) (F : List Nat) (l : List Cel) (rq : List Nat) (hM : MM w mp p s F l [] rq) (pl : List Cel) (ap : Option Addr) (cp : Nat) (hp : PlainOk pl) (hrp : Hp.Rd w ap (16 * 4) (Cl.flat pl)) (hpi : ∀ x ∈ pl, InC x) (all : List Int) (aw : Option Addr) (m cw : Nat) (hra : Hp.Rd w aw m (ints .u64 all)) (hu : ∀ v ∈ all, 0 ≤ v ∧ v < 18446744073709551616) (hm : m ≤ 1000000) (R : List Int) (hmi : MI pl all l R R.length) (hb : Bnd w) :
    Calls Tryd.prog 15 #[.pointer (some ⟨p, 0, none⟩), .pointer (some ⟨mp, 0, none⟩), .slice ap 16 cp, .slice aw m cw, .int .i64 R.length] w fun e w' => e = .returned (.bool true) ∧ Ch [] w w' := by
  have hal : all.length = m := by simpa [ints] using hra.1
  obtain ⟨pb, po, rfl, hpj⟩ := hrp.2.resolve_left (by omega)
  have HPK : Hid (∀ (W : World) (c : Nat), Ch [] w W → c < 16 → W.cell? ⟨pb, po + c * 4, none⟩ = some (.int .u8 (pl.getD c free).k)) := Lib.hid (fun W c cw hc => by
    have h1 := (hpj (c * 4 + 0) (by omega)).trans (Cl.flat_get pl c 0 (by rw [hp.len]; exact hc) (by omega))
    exact cw.cell (by simpa [cel] using h1) (by simp))
  have HM := Lib.hid hM
  have HPO := Lib.hid hp
  have HRP := Lib.hid hrp
  have HPI := Lib.hid hpi
  have HRA := Lib.hid hra
  have HU := Lib.hid hu
  have HMI := Lib.hid hmi
  have HB := Lib.hid hb
  have HAL := Lib.hid hal
  obtain ⟨i0, hi, he⟩ := Option.map_eq_some_iff.1 Gr.infoWord
  simp only [Prod.mk.injEq] at he
  obtain ⟨hz0, hz1, hz2⟩ := he
  obtain ⟨rn, hrn⟩ : ∃ rn, rn = R.length := ⟨_, rfl⟩
  have HRN := Lib.hid hrn
  rw [← hrn]
  clear hM hp hrp hpi hra hu hmi hb hal hpj hrn
  go_enter Tryd.func15, Tryd.ntmps15
  go_wp2_with fail
  go_loopw [12, 11] (fun i o wr => ∃ (j : Nat) (qs : List Nat) (rl : List Int), i = .int .i64 j ∧ j ≤ m ∧ rl = rootsOf pl (all.take j) ∧ Row wr 29 1 o qs rl.length (ints .u64 rl) ∧ Ch [] w wr ∧ ∀ q ∈ qs, w.heap.size ≤ q) (fun i _ _ => m - (intOf i).toNat)
  case atStart => exact ⟨0, [], [], rfl, by omega, rfl, Row.nil _ _ _ _, Ch.refl _ _, by simp⟩
  case round =>
    obtain ⟨j, qs, rl, rfl, hj, hrl, hrow, hc, hqs⟩ := hrel
    obtain ⟨aq, cq, rfl, q1, q2, q3⟩ := hrow.rd
    have hrll : rl.length ≤ j := by rw [hrl]; exact rootsOf_len pl all j
    by_cases hlt : j < m
    · have ltJ : (j : Int) < m := by omega
      have hja : j < all.length := by rw [HAL.out]; exact hlt
      obtain ⟨bw, ow, rfl, hx⟩ := (HRA.out.ch hc).2.resolve_left (by omega)
      have a1 := (hx j hlt).trans (ints_get hja)
      have NX := Lib.hid (rootsOf_next pl all j hja)
      have hxu := HU.out (all.getD j 0) (by simp [List.getD_eq_getElem?_getD, hja])
      generalize all.getD j 0 = x at *
      have CC := Wd.Cell_any wr x hxu.1 hxu.2 (Bnd.ch HB.out hc (by simp))
      have hrg := cellN_range x
      rw [← hrl] at NX
      have HROW := Lib.hid hrow
      have HC := Lib.hid hc
      have HQ := Lib.hid hqs
      have hRO : rootOk pl x = (isRef x && (decide (cellN x < 16) && ((pl.getD (cellN x).toNat free).k != 0))) := rfl
      clear hx hxu hrl hrow hqs q3
      cases hr : isRef x
      · as_aux_lemma =>
        rw [hr] at CC hRO
        have e : rootOk pl x = false := by rw [hRO]; rfl
        rw [e] at NX
        simp only [Bool.false_eq_true, if_false, List.append_nil] at NX
        clear hr hrg hRO e hc
        generalize cellN x = y at *
        obtain ⟨k, hk⟩ : ∃ k, k = rl.length := ⟨_, rfl⟩
        rw [← hk] at HROW ⊢
        have HK := Lib.hid hk
        clear hk
        go_wp2_with fail
        refine CC.mono ?_
        rintro e w5 ⟨rfl, rfl⟩
        clear CC
        go_wp2_with fail
        go_roundw
        case rel => exact ⟨j + 1, qs, rl, by go_num, by omega, NX.out.symm, by rw [← HK.out]; exact HROW.out, HC.out, HQ.out⟩
        case measure => simp [intOf]; omega
      · obtain ⟨c, hcc⟩ : ∃ c : Nat, c = (cellN x).toNat := ⟨_, rfl⟩
        have hcv : cellN x = (c : Int) := by omega
        rw [hr, ← hcc, hcv] at hRO
        rw [hr, hcv] at CC
        obtain ⟨k, hk⟩ : ∃ k, k = rl.length := ⟨_, rfl⟩
        rw [← hk] at HROW hrll ⊢
        have HK := Lib.hid hk
        have d0 : c < 16 → wr.cell? ⟨pb, po + c * 4, none⟩ = some (.int .u8 (pl.getD c free).k) := fun h => HPK.out wr c hc h
        generalize (pl.getD c free).k = ck at *
        clear hr hrg hcc hcv hc hk
        by_cases h16 : c < 16
        · have lt16 : (c : Int) < 16 := by omega
          have d1 := d0 h16
          by_cases k0 : ck = 0
          · as_aux_lemma =>
            subst k0
            have e : rootOk pl x = false := by rw [hRO]; simp
            rw [e] at NX
            simp only [Bool.false_eq_true, if_false, List.append_nil] at NX
            clear hRO e d0
            go_wp2_with fail
            refine CC.mono ?_
            rintro e w5 ⟨rfl, rfl⟩
            clear CC
            go_wp2_with fail
            go_roundw
            case rel => exact ⟨j + 1, qs, rl, by go_num, by omega, NX.out.symm, by rw [← HK.out]; exact HROW.out, HC.out, HQ.out⟩
            case measure => simp [intOf]; omega
          · as_aux_lemma =>
            have e : rootOk pl x = true := by rw [hRO]; simp [lt16, k0]
            rw [e] at NX
            simp only [if_true] at NX
            have k0' : (ck != 0) = true := bne_iff_ne.2 k0
            have CAB := Lib.hid ((Ch.refl [] wr).alloc (.cells #[.int .u64 x] 29))
            have HR1 := Lib.hid (HROW.out.ch CAB.out (by simp))
            have HN1 := Lib.hid (newL (w := wr) (b := wr.heap.size) rfl [.int .u64 x] 29)
            clear hRO e d0 k0
            go_wp2_with fail
            refine CC.mono ?_
            rintro e w5 ⟨rfl, rfl⟩
            clear CC
            go_wp2_with (at_builtin; go_loud (refine wpList_append_row _ rfl _ _ 25 rfl 29 i0 _ 1 8 Tryd.underlying25 hi hz0 hz1 hz2 rfl (by decide) rfl HR1.out ⟨w5.heap.size, 0, none⟩ 1 1 [.int .u64 x] rfl rfl HN1.out (one1 _ _) (by unfold maxLen; omega) (by omega) ?_))
            intro v' w8 qs' hr4 hc4 hq4
            have HR4 := Lib.hid hr4
            have HC4 := Lib.hid hc4
            have HQ4 := Lib.hid hq4
            obtain ⟨ao4, cap4, rfl, _⟩ := hr4.rd
            clear hr4 hc4 hq4
            go_wp2_with fail
            go_roundw
            case rel =>
              refine ⟨j + 1, qs', rl ++ [x], by go_num, by omega, NX.out.symm, ?_, (HC.out.trans' CAB.out).trans HC4.out (fun x hx => .inr (HQ.out x hx)), fun q hq => ?_⟩
              · rw [List.length_append, ← HK.out, show ints .u64 (rl ++ [x]) = ints .u64 rl ++ [.int .u64 x] by simp [ints]]; exact HR4.out
              · have s1 := CAB.out.size
                have s3 := HC.out.size
                rcases HQ4.out with e | ⟨q', e, h3, h4⟩
                · rw [e] at hq; exact HQ.out q hq
                · rw [e] at hq; simp at hq; subst hq; omega
            case measure => simp [intOf]; omega
        · as_aux_lemma =>
          have lt16 : ¬ (c : Int) < 16 := by omega
          have e : rootOk pl x = false := by rw [hRO]; simp [lt16]
          rw [e] at NX
          simp only [Bool.false_eq_true, if_false, List.append_nil] at NX
          clear hRO e d0
          go_wp2_with fail
          refine CC.mono ?_
          rintro e w5 ⟨rfl, rfl⟩
          clear CC
          go_wp2_with fail
          go_roundw
          case rel => exact ⟨j + 1, qs, rl, by go_num, by omega, NX.out.symm, by rw [← HK.out]; exact HROW.out, HC.out, HQ.out⟩
          case measure => simp [intOf]; omega
    · obtain rfl : m = j := by omega
      have ltJ : ¬ (m : Int) < m := by omega
      rw [List.take_of_length_le (by rw [HAL.out]; exact Nat.le_refl _)] at hrl
      rw [Nat.mul_one] at q3
      have hcl : (pl.map conv).length = 16 := by rw [List.length_map, HPO.out.len]
      have hmay := may_plain HPO.out all (fun _ _ => trivial)
      have A := Gr.Reach_any (ao := some ⟨pb, po, none⟩) (cap := cp) (h := pl.map conv) (aw := aq) (cw := cq) (ws := rl) (m := rl.length) (w := wr) (by rw [hcl]; omega) (by omega) (by
        rw [hcl, conv_flat]
        have h1 := HRP.out.ch hc
        exact ⟨h1.1, h1.2.imp id fun ⟨b, off, e, hj⟩ => ⟨b, off, e, by simp, hj⟩⟩) (⟨q3.1, q3.2.imp id fun ⟨b, off, e, hj⟩ => ⟨b, off, e, by simp, hj⟩⟩) (fun x hx => by
          obtain ⟨y, hy, rfl⟩ := List.mem_map.1 hx
          exact HPI.out y hy) (fun v hv => by rw [hrl] at hv; unfold rootsOf at hv; exact HU.out v (List.mem_filter.1 hv).1) (Bnd.ch HB.out hc (by simp))
      unfold Gr.Mk at A
      have e1 : Gr.gErr (pl.map conv) rl = 0 := by unfold Gr.gErr; rw [hrl, if_pos hmay]
      have e2 : Gr.reach (pl.map conv) rl = (Gp.order (pl.map conv) (rootsOf pl all)).1 := by unfold Gr.reach; rw [hrl, if_pos hmay]
      have hbl := Gp.order_len hmay
      rw [e1, e2, hbl, hcl] at A
      rw [hcl] at hbl
      have HEC := Lib.hid (fun (c : Nat) (hc : c < 16) => end_cell HPO.out HMI.out hc)
      generalize (Gp.order (pl.map conv) (rootsOf pl all)).1 = B at *
      have HBL := Lib.hid hbl
      have HC := Lib.hid hc
      obtain ⟨k, hk⟩ : ∃ k, k = rl.length := ⟨_, rfl⟩
      rw [← hk] at A ⊢
      clear hrl hrow hqs q1 q2 q3 hcl hmay e1 e2 hbl hc hrll hk hlt
      go_wp2_with fail
      refine A.mono ?_
      rintro e w2 ⟨vb, qb, rfl, g1, g2, _⟩
      obtain ⟨ab, cbb, rfl, _, _, b3⟩ := g1.rd
      rw [Nat.mul_one] at b3
      obtain ⟨bb, ob, rfl, hbj⟩ := b3.2.resolve_left (by omega)
      have HBJ : Hid (∀ (W : World) (c : Nat), Ch [] w2 W → c < 16 → W.cell? ⟨bb, ob + c, none⟩ = some (.bool (B.getD c true))) := Lib.hid (fun W c cw hc => cw.cell ((hbj c hc).trans (Gr.bv_at _ _ (by rw [HBL.out]; exact hc))) (by simp))
      have C2 := Lib.hid (HC.out.trans' g2)
      have S := Cl.Snapshot_any w2 p s F l (HM.out.is.ch C2.out (by simp))
      have hll : l.length = 16 := by rw [HMI.out.ci.len, HPO.out.len]
      rw [hll] at S
      obtain ⟨sb, hsb⟩ : ∃ sb, sb = w2.heap.size := ⟨_, rfl⟩
      rw [← hsb] at S
      have HLL := Lib.hid hll
      clear A g1 g2 b3 hbj hll hsb
      go_wp2_with fail
      refine S.mono ?_
      rintro e w3 ⟨rfl, g1, g2⟩
      have C3 := Lib.hid (C2.out.trans' g2)
      have C23 := Lib.hid g2
      have GA := Mk.Grey_any w3 mp p s F l [] rq (HM.out.ch0 C3.out) (by simp)
      unfold Mk.MkI at GA
      have HSN : Hid (∀ (W : World) (c t : Nat), Ch [] w3 W → c < 16 → t < 4 → W.cell? ⟨sb, c * 4 + t, none⟩ = (cel (l.getD c free)).toList[t]?) := Lib.hid (fun W c t cw hc ht => by
        have h1 := cw.heap g1 (by simp)
        rw [cell_at h1, List.getElem?_toArray]
        exact Cl.flat_get l c t (by rw [HLL.out]; exact hc) ht)
      simp only [List.length_nil] at GA
      clear S g1 g2
      go_wp2_with fail
      refine GA.mono ?_
      rintro e w4 ⟨vg, qg, rfl, g1, g2, _⟩
      obtain ⟨ag, cg, rfl, _⟩ := g1.rd
      have C34 := Lib.hid g2
      have C4 := Lib.hid (C3.out.trans' g2)
      clear GA g1 g2
      go_wp2_with fail
      have HCI : Hid (cnt R 16 = rn) := Lib.hid (by rw [end_len HPO.out HMI.out, HRN.out])
      go_loopw [19, 18] (fun i v wr => ∃ (j : Nat), i = .int .i64 j ∧ j ≤ 16 ∧ v = .int .i64 (cnt R j) ∧ Ch [] w4 wr) (fun i _ _ => 16 - (intOf i).toNat)
      case atStart => exact ⟨0, rfl, by omega, rfl, Ch.refl _ _⟩
      case round =>
        obtain ⟨j, rfl, hj, rfl, hcx⟩ := hrel
        by_cases hlt : j < 16
        · have ltJ : (j : Int) < 16 := by omega
          have HCX := Lib.hid hcx
          have cw3 := C34.out.trans' hcx
          have b0 := HBJ.out wr j (C23.out.trans' cw3) hlt
          have n0 := HSN.out wr j 0 cw3 hlt (by omega)
          have n1 := HSN.out wr j 1 cw3 hlt (by omega)
          have n2 := HSN.out wr j 2 cw3 hlt (by omega)
          have n3 := HSN.out wr j 3 cw3 hlt (by omega)
          have cw0 := C4.out.trans' hcx
          have hpr := (HRP.out.ch cw0).2.resolve_left (by omega)
          obtain ⟨pb', po', he', hpj⟩ := hpr
          simp only [Option.some.injEq, Addr.mk.injEq] at he'
          obtain ⟨rfl, rfl, _⟩ := he'
          have hA : ∀ t, t < 4 → wr.cell? ⟨pb, po + (j * 4 + t), none⟩ = (cel (pl.getD j free)).toList[t]? := fun t ht => (hpj (j * 4 + t) (by omega)).trans (Cl.flat_get pl j t (by rw [HPO.out.len]; exact hlt) ht)
          have d0 : wr.cell? ⟨pb, po + j * 4, none⟩ = some (.int .u8 (pl.getD j free).k) := hA 0 (by omega)
          have d1 : wr.cell? ⟨pb, po + j * 4 + 1, none⟩ = some (.int .u8 (pl.getD j free).c) := hA 1 (by omega)
          have d2 : wr.cell? ⟨pb, po + j * 4 + 2, none⟩ = some (.int .u64 (pl.getD j free).a) := hA 2 (by omega)
          have d3 : wr.cell? ⟨pb, po + j * 4 + 3, none⟩ = some (.int .u64 (pl.getD j free).b) := hA 3 (by omega)
          obtain ⟨f1, f2⟩ := HEC.out j hlt
          have hc0 := (HPO.out.cel j hlt).2.1
          rw [f1] at n0 n1 n2 n3
          have hcb : cnt R j ≤ j := by
            rw [cnt_eq]
            have := List.length_filter_le (fun (i : Nat) => decide ((i : Int) ∈ R)) (List.range j)
            simpa [firsts] using this
          have HCN : Hid (cnt R (j + 1) = if (j : Int) ∈ R then cnt R j + 1 else cnt R j) := Lib.hid rfl
          generalize pl.getD j free = x at *
          generalize B.getD j true = bj at *
          generalize cnt R j = cj at *
          obtain ⟨xk, xc, xa, xb⟩ := x
          simp only [cel] at n0 n1 n2 n3 d0 d1 d2 d3 f2 hc0
          subst hc0
          clear hA hpj hcx cw3 cw0 f1
          by_cases hin : (j : Int) ∈ R
          · as_aux_lemma =>
            obtain ⟨rfl, hk⟩ := f2.1 hin
            have hk' : (xk != 0) = true := bne_iff_ne.2 hk
            rw [if_pos hin] at HCN n1
            rw [if_pos hin] at n0 n2 n3
            have m0 : wr.cell? ⟨sb, j * 4, none⟩ = some (.int .u8 xk) := n0
            have m1 : wr.cell? ⟨sb, j * 4 + 1, none⟩ = some (.int .u8 2) := n1
            have m2 : wr.cell? ⟨sb, j * 4 + 2, none⟩ = some (.int .u64 xa) := n2
            have m3 : wr.cell? ⟨sb, j * 4 + 3, none⟩ = some (.int .u64 xb) := n3
            have CA := (Ch.refl [] wr).alloc (.cells #[.int .u8 xk, .int .u8 0, .int .u64 xa, .int .u64 xb] 86)
            have CB := (Ch.refl [] wr).alloc (.cells #[.int .u8 xk, .int .u8 2, .int .u64 xa, .int .u64 xb] 86)
            have p0 := CA.cell b0 (by simp)
            have p1 := CA.cell d0 (by simp)
            have q0 := CB.cell m0 (by simp)
            have q1 := CB.cell m1 (by simp)
            have q2 := CB.cell m2 (by simp)
            have q3 := CB.cell m3 (by simp)
            clear n0 n1 n2 n3 CA CB
            clear f2 hin hk
            go_wp2_with fail
            go_quiet (fail)
            go_wp2_with fail
            go_roundw
            case rel => exact ⟨j + 1, by go_num, by omega, by rw [HCN.out]; first | rfl | (push_cast; rfl) | go_num, ((HCX.out.alloc _).drewN _)⟩
            case measure => simp [intOf]; omega
          · as_aux_lemma =>
            have hno : bj = false ∨ (bj = true ∧ xk = 0) := by
              cases bj
              · exact .inl rfl
              · by_cases hk : xk = 0
                · exact .inr ⟨rfl, hk⟩
                · exact absurd (f2.2 ⟨rfl, hk⟩) hin
            rw [if_neg hin] at HCN n1
            rw [if_neg hin] at n0 n2 n3
            have m0 : wr.cell? ⟨sb, j * 4, none⟩ = some (.int .u8 xk) := n0
            have m1 : wr.cell? ⟨sb, j * 4 + 1, none⟩ = some (.int .u8 0) := n1
            have m2 : wr.cell? ⟨sb, j * 4 + 2, none⟩ = some (.int .u64 xa) := n2
            have m3 : wr.cell? ⟨sb, j * 4 + 3, none⟩ = some (.int .u64 xb) := n3
            have CA := (Ch.refl [] wr).alloc (.cells #[.int .u8 xk, .int .u8 0, .int .u64 xa, .int .u64 xb] 86)
            have CB := (Ch.refl [] wr).alloc (.cells #[.int .u8 xk, .int .u8 0, .int .u64 xa, .int .u64 xb] 86)
            have p0 := CA.cell b0 (by simp)
            have p1 := CA.cell d0 (by simp)
            have q0 := CB.cell m0 (by simp)
            have q1 := CB.cell m1 (by simp)
            have q2 := CB.cell m2 (by simp)
            have q3 := CB.cell m3 (by simp)
            clear n0 n1 n2 n3 CA CB
            clear f2 hin
            rcases hno with rfl | ⟨rfl, rfl⟩
            · go_wp2_with fail
              go_quiet (fail)
              go_wp2_with fail
              go_roundw
              case rel => exact ⟨j + 1, by go_num, by omega, by rw [HCN.out], ((HCX.out.alloc _).drewN _)⟩
              case measure => simp [intOf]; omega
            · go_wp2_with fail
              go_quiet (fail)
              go_wp2_with fail
              go_roundw
              case rel => exact ⟨j + 1, by go_num, by omega, by rw [HCN.out], ((HCX.out.alloc _).drewN _)⟩
              case measure => simp [intOf]; omega
        · as_aux_lemma =>
          obtain rfl : j = 16 := by omega
          have CE := Lib.hid (C4.out.trans' hcx)
          rw [HCI.out]
          go_wp2_with fail
          go_ret
          exact ⟨by simp, CE.out⟩
end Go.Proofs.YtefamhdkfdgdjaaDoor.L15
