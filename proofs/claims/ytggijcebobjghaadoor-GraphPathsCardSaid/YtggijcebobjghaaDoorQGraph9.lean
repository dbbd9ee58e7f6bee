/-
  THE WALK of graph.far.
-/
import Derived.Test.YtggijcebobjghaaDoorQGraph8
set_option linter.unusedVariables false
set_option linter.unusedSimpArgs false
set_option maxRecDepth 100000
namespace Go.Proofs.YtggijcebobjghaaDoor.Gr
open Go.RowKit Go.Proofs.YtggijcebobjghaaDoor.Wd Go.Proofs.YtggijcebobjghaaDoor.Hp Go.Proofs.YtggijcebobjghaaDoor.Gp Go.Proofs.YtggijcebobjghaaDoor.Sm

def FarPost (h : List Cel) (to : Nat) (w : World) (e : Ending) (w' : World) : Prop :=
  ∃ ob, e = .returned (.slice (some ⟨ob, 0, none⟩) h.length h.length) ∧ w'.heap[ob]? = some (.cells (iv (far h to)).toArray 3 (0, 0)) ∧ Ch [] w w' ∧ w.heap.size ≤ ob
/-- The numbers and the row of the search. -/
structure OS (ob n : Nat) (w : World) (o : Value) (qs : List Nat) (s : FSt) : Prop where
  hob : w.heap[ob]? = some (.cells (iv s.1).toArray 3 (0, 0))
  row : Row w 3 1 o qs s.2.length (nv s.2)
  ne : ∀ q ∈ qs, q ≠ ob
theorem OS.drewN {ob n : Nat} {w : World} {o : Value} {qs : List Nat} {s : FSt} (h : OS ob n w o qs s) (k : Nat) : OS ob n (w.drewN k) o qs s := ⟨h.hob, h.row.keep (fun q _ o ho => ho), h.ne⟩
section
variable (w : World) (ao : Option Addr) (cap : Nat) (h : List Cel) (to : Nat)
set_option maxHeartbeats 4000000 in
theorem far_any (hn : h.length ≤ 1000000) (hto : to < h.length) (hr : RdF w ao (h.length * 4) (flat h) []) (hh : ∀ x ∈ h, InR x) (hb : Bnd w) (hmay : ∀ c, c < h.length → ∀ v ∈ wordsOf h c, isRef v = true → (cellN v).toNat < h.length) :
    Calls Tryd.prog 63 #[.slice ao h.length cap, .int .i64 to] w (FarPost h to w) := by
  have HR := Lib.hid hr
  have HB := Lib.hid hb
  have HHH := Lib.hid hh
  have HMY := Lib.hid hmay
  obtain ⟨R, hR⟩ : ∃ R, R = FarPost h to w := ⟨_, rfl⟩
  have HRR := Lib.hid hR
  rw [← hR]
  obtain ⟨n, hnl⟩ : ∃ n, n = h.length := ⟨_, rfl⟩
  have hn' : n ≤ 1000000 := by rw [hnl]; exact hn
  have hto' : to < n := by rw [hnl]; exact hto
  have toI : (to : Int) < n := by omega
  have hmk : ∀ w : World, _ := fun w => run_make_ints w n hn'
  have hmk2 : ∀ w : World, _ := fun w => run_make_lists w n hn'
  have HN := Lib.hid hnl
  rw [← hnl]
  have HP0 := Lib.hid (FR0.start w n hn')
  have HF0 : Hid (fromK h 0 = List.replicate n []) := Lib.hid (by rw [hnl]; rfl)
  have HC0 : Hid (Ch [] w ((w.alloc (.cells ((List.range n).map (fun _ => Value.slice none 0 0)).toArray 59)).alloc (.cells #[.slice (some ⟨w.heap.size, 0, none⟩) n n] 30))) := Lib.hid (((Ch.refl _ _).alloc _).alloc _)
  clear hr hb hh hmay hR hnl hn hto
  go_enter Tryd.func63, Tryd.ntmps63
  go_wp2_with fail
  go_loopw [18] (fun i wr => ∃ (k : Nat) (T : List Nat), i = .int .i64 k ∧ k ≤ n ∧ FR0 (w.heap.size + 1) w.heap.size n (2 * (n - k)) wr (fromK h k) T ∧ Ch [] w wr ∧ ∀ t ∈ T, w.heap.size ≤ t) (fun i _ => n - (intOf i).toNat)
  case atStart => exact ⟨0, [w.heap.size], rfl, by omega, by rw [HF0.out]; exact HP0.out, HC0.out, by simp⟩
  case round =>
    obtain ⟨k, T, rfl, hkn, hfr, hc, hT⟩ := hrel
    clear HP0 HC0
    have HC := Lib.hid hc
    have HT := Lib.hid hT
    by_cases hlt : k < n
    · have C1 := (Ch.refl [] wr).alloc (.cells #[.int .i64 k] 3)
      have I := hfr.new (k : Int)
      have CA := hc.trans' C1
      have hbt : 0 ∉ T := fun hx => by have := hT _ hx; have := Bnd.block HB.out; omega
      rw [show 2 * (n - k) = 2 * (n - (k + 1)) + 2 by omega] at I
      have EN := named_farB _ _ _ _ _ (far1_steps (w.heap.size + 1) w.heap.size wr.heap.size n k hn') (fun b w s T h => h.mono) (fun b w w' s T h hc => h.ch hc) (2 * (n - (k + 1))) _ (fromK h k) T I (fun t ht => by have := hfr.tlt t ht; have := C1.size; omega) ao cap h k (by rw [← HN.out]; exact hlt) (by rw [← HN.out]; exact hn')
        (HR.out.ch CA (fun t ht => .inr (hT t ht))) HHH.out (Bnd.ch HB.out CA (by simp)) hbt (by rw [HN.out]; exact HMY.out k (by rw [← HN.out]; exact hlt))
      rw [← HN.out] at EN
      have HFS : Hid (fromK h (k + 1) = named h (push k) (fromK h k) k) := Lib.hid rfl
      have HC1 := Lib.hid C1
      have HCA := Lib.hid CA
      have p1 : (wr.alloc (.cells #[.int .i64 k] 3)).cell? ⟨wr.heap.size, 0, none⟩ = some (.int .i64 k) := World.cell?_alloc_at _ _ _ _ rfl
      have ltI : (k : Int) < n := by omega
      clear hfr hc hT C1 I CA hbt
      go_wp2_with fail
      refine EN.mono ?_
      rintro e w2 ⟨rfl, T2, g1, g2, g3⟩
      have G1 := Lib.hid g1.to0
      have G2 := Lib.hid (HCA.out.trans g2 (fun t ht => .inr (HT.out t ht)))
      have G3 : Hid (∀ t ∈ T2, w.heap.size ≤ t) := Lib.hid (fun t ht => by
        rcases g3 t ht with h | h
        · exact HT.out t h
        · exact Nat.le_trans HCA.out.size h)
      clear EN g1 g2 g3
      go_wp2_with fail
      go_roundw
      case rel => exact ⟨k + 1, T2, by go_num, by omega, by rw [HFS.out]; exact G1.out, G2.out, G3.out⟩
      case measure => simp [intOf]; omega
    · obtain rfl : n = k := by omega
      obtain ⟨w4, rfl⟩ : ∃ w4 : World, w4 = wr := ⟨_, rfl⟩
      obtain ⟨fr, hfe⟩ : ∃ fr, fr = fromK h n := ⟨_, rfl⟩
      rw [← hfe] at hfr
      have HFE : Hid (fr = fromK h h.length) := Lib.hid (by rw [hfe, HN.out])
      have HFM : Hid (∀ c, ∀ x ∈ fr.getD c [], x < n) := Lib.hid (by rw [hfe]; exact fromK_mem h n)
      have HFR := Lib.hid hfr
      have HA4 : Hid (Ch [] w4 (w4.alloc (.cells (nv (List.replicate n 0)).toArray 3))) := Lib.hid ((Ch.refl _ _).alloc _)
      have HB4 : Hid ((w4.alloc (.cells (nv (List.replicate n 0)).toArray 3)).heap[w4.heap.size]? = some (.cells (iv (negK n 0)).toArray 3 (0, 0))) := Lib.hid (by rw [heap_new]; simp [nv, iv, negK])
      clear hfe hfr hc hT HT HHH HMY HF0
      go_wp2_with fail
      go_loopw [31] (fun i wr => ∃ (k : Nat), i = .int .i64 k ∧ k ≤ n ∧ wr.heap[w4.heap.size]? = some (.cells (iv (negK n k)).toArray 3 (0, 0)) ∧ Ch [] w4 wr) (fun i _ => n - (intOf i).toNat)
      case atStart => exact ⟨0, rfl, by omega, HB4.out, HA4.out⟩
      case round =>
        obtain ⟨k, rfl, hkn, hob, hc⟩ := hrel
        clear HA4 HB4
        have HOB := Lib.hid hob
        have HC2 := Lib.hid hc
        by_cases hlt : k < n
        · have a1 := cell_at (i := k) hob
          rw [List.getElem?_toArray, iv_at _ _ 0 (by rw [negK_len]; exact hlt)] at a1
          have f1 := free_at (i := k) hob
          have ltI : (k : Int) < n := by omega
          have HS : Hid (negK n (k + 1) = (negK n k).set k (-1)) := Lib.hid rfl
          clear hob hc
          go_wp2_with fail
          go_roundw
          case rel =>
            refine ⟨k + 1, by go_num, by omega, ?_, HC2.out.setCell _ _ (.inr (Nat.le_refl _))⟩
            rw [HS.out, ← iv_set]; exact heap_set HOB.out _
          case measure => simp [intOf]; omega
        · obtain rfl : n = k := by omega
          obtain ⟨w5, rfl⟩ : ∃ w5 : World, w5 = wr := ⟨_, rfl⟩
          rw [negK_all] at hob
          have a1 := cell_at (i := to) hob
          rw [List.getElem?_toArray, iv_at _ _ 0 (by simpa using hto')] at a1
          have f1 := free_at (i := to) hob
          have o6 := heap_set (i := to) hob (.int .i64 0)
          rw [iv_set] at o6
          have l6 := lt_of hob
          have C6 : Ch [] w4 ((w5.setCell ⟨w4.heap.size, to, none⟩ (.int .i64 0)).alloc (.cells #[.int .i64 to] 3)) := (hc.setCell _ _ (.inr (Nat.le_refl _))).alloc _
          have hs6 : (w5.setCell ⟨w4.heap.size, to, none⟩ (.int .i64 0)).heap.size = w5.heap.size := by simp [World.setCell]
          have r6 := heap_new (w5.setCell ⟨w4.heap.size, to, none⟩ (.int .i64 0)) (.cells #[.int .i64 to] 3)
          rw [hs6] at r6
          have HOS : Hid (OS w4.heap.size n ((w5.setCell ⟨w4.heap.size, to, none⟩ (.int .i64 0)).alloc (.cells #[.int .i64 to] 3)) (.slice (some ⟨w5.heap.size, 0, none⟩) 1 1) [w5.heap.size] (far0 n to)) := Lib.hid ⟨heap_old o6, Row.block (xs := nv [to]) (by rw [r6]; rfl) rfl (by omega), fun q hq => by simp at hq; omega⟩
          have HC6 := Lib.hid C6
          have HCW := Lib.hid HC.out
          have HIN := Lib.hid (FInv.start n to hto')
          have HFA : Hid (farL fr (n + 1) 0 (far0 n to) = farS h to) := Lib.hid (by unfold farS; rw [← HFE.out, ← HN.out])
          have hl6 : (far0 n to).2.length = 1 := rfl
          have HLB : Hid (w.heap.size ≤ w4.heap.size) := Lib.hid HC.out.size
          have HL45 : Hid (w4.heap.size ≤ w5.heap.size) := Lib.hid hc.size
          obtain ⟨hflen, hfpf, hfne, hfroom, V, Q, hfT, hffb, hfrow, hfq, hfd⟩ := HFR.out
          have HFPF := Lib.hid hfpf
          have HFFB := Lib.hid hffb
          have HFROW := Lib.hid hfrow
          have HFLEN := Lib.hid hflen
          have HROOM := Lib.hid hfroom
          clear hflen hfpf hfne hfroom hfT hffb hfrow hfq hfd HFR hob hc o6 C6 r6 hs6 l6 HOB HC2 HC HB HR hmk hmk2
          go_wp2_with fail
          go_loopw [9, 10] (fun o ii wr => ∃ (i : Nat) (s : FSt) (qs : List Nat), ii = .int .i64 i ∧ i ≤ n ∧ OS w4.heap.size n wr o qs s ∧ FInv n s ∧ farL fr (n + 1 - i) i s = farS h to ∧ Ch [] w4 wr ∧ ∀ q ∈ qs, w4.heap.size ≤ q) (fun o i _ => n - (intOf i).toNat)
          case atStart => exact ⟨0, _, [w5.heap.size], rfl, by omega, HOS.out, HIN.out, HFA.out, HC6.out, fun q hq => by simp at hq; subst hq; exact HL45.out⟩
          case round =>
            obtain ⟨i, s, qs, rfl, hin, hos, hinv, hfa, hc, hqs⟩ := hrel
            obtain ⟨a1, a2, rfl, a3, a4, a5⟩ := hos.row.rd
            have hle := hinv.le
            have HOS2 := Lib.hid hos
            have HINV := Lib.hid hinv
            have HFA2 := Lib.hid hfa
            have HC2 := Lib.hid hc
            have HQ2 := Lib.hid hqs
            clear HOS HC6 HIN HFA
            by_cases hlt : i < s.2.length
            · have hrm := hinv.at_mem i hlt
              have hrn := ((hinv.mem _).1 hrm).1
              obtain ⟨b, off, rfl, hj⟩ := a5.2.resolve_left (by omega)
              have c1 := (hj i (by omega)).trans (nv_at _ _ hlt)
              have c2 := cell_at (i := 0) (hc.heap HFPF.out (by simp))
              simp only [List.getElem?_toArray, List.getElem?_cons_zero] at c2
              obtain ⟨r, hre⟩ : ∃ r, r = s.2.getD i 0 := ⟨_, rfl⟩
              rw [← hre] at hrm hrn c1
              have c3 := cell_at (i := r) (hc.heap HFFB.out (by simp))
              rw [List.getElem?_toArray, range_get V n r hrn] at c3
              obtain ⟨af, cf, hv, v1, v2, v3⟩ := (HFROW.out r hrn).rd
              rw [hv] at c3
              have hrl := HROOM.out r hrn
              have rI : (r : Int) < n := by omega
              have iI : (i : Int) < s.2.length := by omega
              have HFE2 : Hid (farL fr (n + 1 - i) i s = farL fr (n + 1 - (i + 1)) (i + 1) (farIn r s (fr.getD r []))) := Lib.hid (by
                rw [show n + 1 - i = (n + 1 - (i + 1)) + 1 by omega, farL, if_pos hlt, ← hre])
              have HRM := Lib.hid hrm
              have HRE := Lib.hid hre
              have HLT := Lib.hid hlt
              obtain ⟨cs, hcs⟩ : ∃ cs, cs = fr.getD r [] := ⟨_, rfl⟩
              rw [← hcs] at hrl v3 c3 HFE2
              have HCM : Hid (∀ x ∈ cs, x < n) := Lib.hid (by rw [hcs]; exact HFM.out r)
              have HV3 := Lib.hid v3
              obtain ⟨lf, hlf⟩ : ∃ lf, lf = cs.length := ⟨_, rfl⟩
              rw [← hlf] at c3 hrl
              have HLF := Lib.hid hlf
              obtain ⟨ln, hln⟩ : ∃ ln, ln = s.2.length := ⟨_, rfl⟩
              have hlt' : i < ln := by rw [hln]; exact hlt
              have hle' : ln ≤ n := by rw [hln]; exact hle
              rw [← hln] at iI ⊢
              have HLN := Lib.hid hln
              clear hos hinv hfa hc hqs hrm hj a5 hv v1 v3 hre hcs hlf hln hlt hle
              go_wp2_with fail
              go_quiet (fail)
              have HOS3 := Lib.hid (HOS2.out.drewN nq)
              have HC3 := Lib.hid (HC2.out.drewN nq)
              generalize wr.drewN nq = wq at *
              clear c1 c2 c3 HOS2 HC2
              go_wp2_with fail
              go_loopw [57, 9] (fun jj o wr => ∃ (j : Nat) (s' : FSt) (qs : List Nat), jj = .int .i64 j ∧ j ≤ lf ∧ OS w4.heap.size n wr o qs s' ∧ FInv n s' ∧ s' = farIn r s (cs.take j) ∧ r ∈ s'.2 ∧ i < s'.2.length ∧ s'.2.getD i 0 = r ∧ Ch [] w4 wr ∧ ∀ q ∈ qs, w4.heap.size ≤ q) (fun jj o _ => lf - (intOf jj).toNat)
              case atStart => exact ⟨0, s, qs, rfl, by omega, by rw [HLN.out]; exact HOS3.out, HINV.out, rfl, HRM.out, HLT.out, HRE.out.symm, HC3.out, HQ2.out⟩
              case round =>
                obtain ⟨j, s', qs', rfl, hjl, hos, hinv, hse, hrm, hil, hir, hc, hqs⟩ := hrel
                obtain ⟨b1, b2, rfl, b3, b4, b5⟩ := hos.row.rd
                have hle := hinv.le
                have HOS4 := Lib.hid hos
                have HINV4 := Lib.hid hinv
                have HSE := Lib.hid hse
                have HC4 := Lib.hid hc
                have HQ4 := Lib.hid hqs
                have HRM4 := Lib.hid hrm
                have HIR := Lib.hid hir
                clear HOS3 HC3 HINV HRM
                by_cases hlt : j < lf
                · have hjc : j < cs.length := by rw [← HLF.out]; exact hlt
                  obtain ⟨bf, offf, rfl, hj⟩ := HV3.out.2.resolve_left (by omega)
                  have hcm : cs.getD j 0 ∈ cs := by rw [show cs.getD j 0 = cs[j] by simp [List.getD, hjc]]; exact List.getElem_mem hjc
                  have hcn := HCM.out _ hcm
                  have d1 := (hj j (by omega)).trans (nv_at _ _ hjc)
                  have d1 := hc.cell d1 (by simp)
                  have HTK : Hid (farIn r s (cs.take (j + 1)) = farC r (farIn r s (cs.take j)) (cs.getD j 0)) := Lib.hid (by rw [take_snoc cs j 0 hjc]; simp [farIn, List.foldl_append])
                  obtain ⟨c, hce⟩ : ∃ c, c = cs.getD j 0 := ⟨_, rfl⟩
                  rw [← hce] at d1 hcn HTK
                  have d2 := cell_at (i := c) hos.hob
                  rw [List.getElem?_toArray, iv_at _ _ 0 (by rw [hinv.len]; exact hcn)] at d2
                  have f2 := free_at (i := c) hos.hob
                  have hrn := ((hinv.mem _).1 hrm).1
                  have d3 := cell_at (i := r) hos.hob
                  rw [List.getElem?_toArray, iv_at _ _ 0 (by rw [hinv.len]; exact hrn)] at d3
                  obtain ⟨bq, offq, rfl, hjq⟩ := b5.2.resolve_left (by omega)
                  have d4 := (hjq i (by omega)).trans (nv_at _ _ hil)
                  rw [hir] at d4
                  have jI : (j : Int) < lf := by omega
                  have cI : (c : Int) < n := by omega
                  have rI2 : (r : Int) < n := by omega
                  have iI2 : (i : Int) < s'.2.length := by omega
                  have hst := hinv.step hrm c hcn
                  have HST := Lib.hid hst
                  have x1 := hinv.lt r
                  have x2 := hinv.ge r
                  rw [getD_d _ _ _ 0 (by rw [hinv.len]; exact hrn)] at x1 x2
                  have HFC : Hid (farC r s' c = if s'.1.getD c 0 < 0 then (s'.1.set c (s'.1.getD r 0 + 1), s'.2 ++ [c]) else s') := Lib.hid rfl
                  have hob1 := heap_set (i := c) hos.hob (.int .i64 (s'.1.getD r 0 + 1))
                  rw [iv_set] at hob1
                  have HOB1 := Lib.hid hob1
                  have HOBL := Lib.hid (lt_of hos.hob)
                  have HROW4 := Lib.hid hos.row
                  have HOBW := Lib.hid hos.hob
                  have HNE4 := Lib.hid hos.ne
                  obtain ⟨oc, hoc⟩ : ∃ oc, oc = s'.1.getD c 0 := ⟨_, rfl⟩
                  obtain ⟨od, hod⟩ : ∃ od, od = s'.1.getD r 0 := ⟨_, rfl⟩
                  obtain ⟨ll, hll⟩ : ∃ ll, ll = s'.2.length := ⟨_, rfl⟩
                  have HIL := Lib.hid hil
                  rw [← hoc] at d2 HFC
                  rw [← hod] at d3 x1 x2 HFC HOB1 hob1
                  rw [← hll] at iI2 x1 b3 HROW4 hle ⊢
                  have HLL := Lib.hid hll
                  clear hos hinv hse hrm hil hir hc hqs hj hcm hjc b5 hjq hst hce hoc hod hll hob1 HOS4 HINV4
                  by_cases hneg : oc < 0
                  · rw [if_pos hneg] at HFC
                    have CAB := Lib.hid (((Ch.refl [w4.heap.size] wr).setCell ⟨w4.heap.size, c, none⟩ (.int .i64 (od + 1)) (.inl (by simp))).alloc (.cells #[.int .i64 c] 3))
                    have HR1 := Lib.hid (HROW4.out.ch CAB.out (fun q hq => by simpa using HNE4.out q hq))
                    have HN1 := Lib.hid (newL (w := wr.setCell ⟨w4.heap.size, c, none⟩ (.int .i64 (od + 1))) (b := wr.heap.size) (by simp [World.setCell]) [.int .i64 c] 3)
                    have HOB2 := Lib.hid (heap_old (o' := .cells #[.int .i64 c] 3) HOB1.out)
                    obtain ⟨i0, hi, he⟩ := Option.map_eq_some_iff.1 infoInt
                    simp only [Prod.mk.injEq] at he
                    obtain ⟨hz0, hz1, hz2⟩ := he
                    clear HROW4 HOB1
                    go_wp2_with (at_builtin; go_loud (refine wpList_append_row _ rfl _ _ 59 rfl 3 i0 _ 1 8 Tryd.underlying59 hi hz0 hz1 hz2 rfl (by decide) rfl HR1.out ⟨wr.heap.size, 0, none⟩ 1 1 [.int .i64 c] rfl rfl HN1.out (one1 _ _) (by unfold maxLen; omega) (by omega) ?_))
                    intro v' w1 qs2 hr4 hc4 hq4
                    have HR4 := Lib.hid hr4
                    have HC5 := Lib.hid hc4
                    have HQ5 := Lib.hid hq4
                    obtain ⟨ao4, cap4, rfl, _⟩ := hr4.rd
                    clear hr4 hc4 hq4
                    go_wp2_with fail
                    go_roundw
                    case rel =>
                      have e1 : farIn r s (cs.take (j + 1)) = (s'.1.set c (od + 1), s'.2 ++ [c]) := by rw [HTK.out, ← HSE.out]; exact HFC.out
                      have hst := HST.out
                      rw [HFC.out] at hst
                      have hq6 : ∀ q ∈ qs2, (w4.heap.size ≤ q) ∧ q ≠ w4.heap.size := fun q hq => by
                        rcases HQ5.out with e | ⟨q', e, h3, h4⟩
                        · rw [e] at hq; exact ⟨HQ4.out q hq, HNE4.out q hq⟩
                        · rw [e] at hq; simp at hq; subst hq
                          have s1 := CAB.out.size
                          have := HOBL.out
                          have h5 : wr.heap.size + 1 ≤ q := by simpa [World.setCell] using h3
                          omega
                      refine ⟨j + 1, (s'.1.set c (od + 1), s'.2 ++ [c]), qs2, by go_num, by omega, ⟨?_, ?_, fun q hq => (hq6 q hq).2⟩, hst.1, e1.symm, hst.2 _ HRM4.out, by have := HIL.out; simp; omega, ?_, (HC4.out.trans CAB.out (fun x hx => by simp at hx; exact .inr (by omega))).trans HC5.out (fun x hx => .inr (HQ4.out x hx)), fun q hq => (hq6 q hq).1⟩
                      · exact HC5.out.heap HOB2.out (fun hm => HNE4.out _ hm rfl)
                      · simp only [List.length_append, List.length_singleton, nv_snoc]
                        rw [← HLL.out]
                        exact HR4.out
                      · rw [← HIR.out]
                        simp [List.getD_eq_getElem?_getD, List.getElem?_append_left HIL.out]
                    case measure => simp [intOf]; omega
                  · rw [if_neg hneg] at HFC
                    go_wp2_with fail
                    go_roundw
                    case rel =>
                      have e1 : farIn r s (cs.take (j + 1)) = s' := by rw [HTK.out, ← HSE.out]; exact HFC.out
                      have hst := HST.out
                      rw [HFC.out] at hst
                      exact ⟨j + 1, s', qs', by go_num, by omega, ⟨HOBW.out, by rw [← HLL.out]; exact HROW4.out, HNE4.out⟩, hst.1, e1.symm, HRM4.out, HIL.out, HIR.out, HC4.out, HQ4.out⟩
                    case measure => simp [intOf]; omega
                · obtain rfl : lf = j := by omega
                  rw [List.take_of_length_le (by rw [HLF.out]; exact Nat.le_refl _)] at hse
                  have HSE2 := Lib.hid hse
                  clear hos hinv hse hrm hil hir hc hqs b5
                  obtain ⟨ll, hll⟩ : ∃ ll, ll = s'.2.length := ⟨_, rfl⟩
                  rw [← hll]
                  have HLL := Lib.hid hll
                  clear hll
                  go_wp2_with fail
                  go_roundw
                  case rel => exact ⟨i + 1, s', qs', by go_num, by omega, by rw [HLL.out]; exact HOS4.out, HINV4.out, by rw [HSE2.out, ← HFE2.out]; exact HFA2.out, HC4.out, HQ4.out⟩
                  case measure => simp [intOf]; omega
            · have e1 : farL fr (n + 1 - i) i s = s := by
                generalize n + 1 - i = k
                cases k with
                | zero => rfl
                | succ k => rw [farL, if_neg hlt]
              have E1 := Lib.hid (e1.symm.trans hfa)
              obtain ⟨ln, hln⟩ : ∃ ln, ln = s.2.length := ⟨_, rfl⟩
              have hlt' : ¬ (i : Int) < ln := by rw [hln]; omega
              rw [← hln]
              clear hos hinv hfa hc hqs a5 e1 hlt hle hln
              go_wp2_with fail
              rw [HRR.out]
              unfold FarPost
              rw [← HN.out]
              refine ⟨w4.heap.size, rfl, ?_, HCW.out.trans' HC2.out, HLB.out⟩
              have := HOS2.out.hob
              rw [E1.out] at this
              exact this
end
end Go.Proofs.YtggijcebobjghaaDoor.Gr
