/-
  THE WALK of barrier.may, on.
-/
import Derived.Test.YtlhhcocdhkbdnaaDoorQJView2
set_option linter.unusedVariables false
set_option linter.unusedSimpArgs false
set_option maxRecDepth 100000
namespace Go.Proofs.YtlhhcocdhkbdnaaDoor.Bp
open Go.RowKit Go.Proofs.YtlhhcocdhkbdnaaDoor.Wd Go.Proofs.YtlhhcocdhkbdnaaDoor.Hp Go.Proofs.YtlhhcocdhkbdnaaDoor.Gp Go.Proofs.YtlhhcocdhkbdnaaDoor.Sm Go.Proofs.YtlhhcocdhkbdnaaDoor.Gr
theorem mayV_nums {v : Vw} (h : numsOk v = false) : mayV v = false := by simp [mayV, h]
theorem mayV_globals {v : Vw} (h : rightW v.cells.length v.globals = false) : mayV v = false := by simp [mayV, h]
theorem mayV_cell {v : Vw} (k : Nat) (hk : k < v.cells.length) (h : cellOk v.cells.length (v.cells.getD k z) = false) : mayV v = false := by
  have : v.cells.all (cellOk v.cells.length) = false := by
    rw [List.all_eq_false]
    exact ⟨v.cells.getD k z, by rw [show v.cells.getD k z = v.cells[k] by simp [List.getD, hk]]; exact List.getElem_mem hk, by rw [h]; simp⟩
  simp [mayV, this]
theorem mayV_grey {v : Vw} (h : greyOk v.cells v.grey = false) : mayV v = false := by simp [mayV, h]
theorem greyOk_bad {h : List Cel} {l : List Int} (k : Nat) (hk : k < l.length) (hb : greyC h (l.getD k 0) = false) : greyOk h l = false := by
  have : l.all (greyC h) = false := by
    rw [List.all_eq_false]
    exact ⟨l.getD k 0, by rw [show l.getD k 0 = l[k] by simp [List.getD, hk]]; exact List.getElem_mem hk, by rw [hb]; simp⟩
  simp [greyOk, this]
theorem greyOk_dup {h : List Cel} {l : List Int} (k : Nat) (hk : k < l.length) (hb : l.getD k 0 ∈ l.take k) : greyOk h l = false := by
  have : nodupB l = false := by
    rw [Bool.eq_false_iff, Ne, nodupB_iff]
    intro hn
    have e : l = l.take k ++ l.drop k := (List.take_append_drop k l).symm
    rw [e, List.nodup_append] at hn
    have hd : l.getD k 0 ∈ l.drop k := by
      rw [show l.getD k 0 = l[k] by simp [List.getD, hk], List.drop_eq_getElem_cons hk]; exact List.mem_cons_self
    exact hn.2.2 _ hb _ hd rfl
  simp [greyOk, this]
theorem greyOk_good {h : List Cel} {l : List Int} (ha : ∀ j, j < l.length → greyC h (l.getD j 0) = true) (hn : l.Nodup) : greyOk h l = true := by
  unfold greyOk
  rw [(nodupB_iff l).2 hn, Bool.and_true, List.all_eq_true]
  intro x hx
  obtain ⟨j, hj, rfl⟩ := List.getElem_of_mem hx
  have := ha j hj
  rwa [show l.getD j 0 = l[j] by simp [List.getD, hj]] at this
/-- What is counted of the grey row's first places. -/
structure MetI (n : Nat) (l : List Int) (m : List Int) : Prop where
  len : m.length = n
  at_ : ∀ c : Nat, c < n → m.getD c 0 = if (c : Int) ∈ l then 1 else 0
theorem MetI.start (n : Nat) : MetI n [] (List.replicate n 0) := ⟨by simp, fun c hc => by simp [List.getD, hc]⟩
theorem MetI.put {n : Nat} {l m : List Int} (h : MetI n l m) (c : Nat) (hc : c < n) : MetI n (l ++ [(c : Int)]) (m.set c 1) := by
  refine ⟨by simpa using h.len, fun d hd => ?_⟩
  have := h.at_ d hd
  by_cases e : d = c
  · subst e; simp [List.getD_eq_getElem?_getD, h.len, hc]
  · have e2 : (m.set c 1).getD d 0 = m.getD d 0 := by simp only [List.getD_eq_getElem?_getD, List.getElem?_set_ne (Ne.symm e)]
    rw [e2, this]
    have e3 : ((d : Int) ∈ l ++ [(c : Int)]) ↔ (d : Int) ∈ l := by
      rw [List.mem_append, List.mem_singleton]
      exact ⟨fun h => h.resolve_right (by omega), .inl⟩
    simp only [e3]
theorem int_set (l : List Int) (c : Nat) (x : Int) : (ints .i64 l).toArray.setIfInBounds c (.int .i64 x) = (ints .i64 (l.set c x)).toArray := by
  simp [ints, List.map_set]
theorem nv_zero (n : Nat) : nv (List.replicate n 0) = ints .i64 (List.replicate n 0) := by simp [nv, ints]
theorem greyN_take (h : List Cel) (k : Nat) (hk : k < h.length) : greyN (h.take (k + 1)) = greyN (h.take k) + if isGrey (h.getD k z) then 1 else 0 := by
  rw [take_snoc h k z hk, greyN_append]; simp [greyN]
set_option maxHeartbeats 4000000 in
theorem mayV_any (w : World) (a : VA) (v : Vw) (hb : Bnd w) (hv : VM w a v) (hr : VR v) :
    Calls Tryd.prog 67 #[.agg (a.arr v)] w fun e w' => e = .returned (.bool (mayV v)) ∧ Ch [] w w' := by
  obtain ⟨W, hW⟩ : ∃ W, W = w.alloc (.cells (a.arr v) 65) := ⟨_, rfl⟩
  have C0 : Ch [] w W := by rw [hW]; exact (Ch.refl _ _).alloc _
  have hbx : W.heap[w.heap.size]? = some (.cells (a.arr v) 65 (0, 0)) := by rw [hW]; exact heap_new w _
  have RG := rightWords_any W a.ac v.cells.length a.cc a.agl v.globals.length a.cgl v.globals (by have := hr.n3; omega) ((hv.ch C0).globals) hr.globals (Bnd.ch hb C0 (by simp)) v.ph v.sw v.laid a.ag a.agl a.al v.grey.length v.globals.length v.lanes.length a.cg a.cgl a.cl
  have HRW := Lib.hid (fun (w1 : World) (h1 : Ch [] w w1) (x y : Int) (hx : Gp.u64 x) (hy : Gp.u64 y) => rightWords_any (w1.alloc (.cells #[.int .u64 x, .int .u64 y] 24)) a.ac v.cells.length a.cc (some ⟨w1.heap.size, 0, none⟩) 2 2 [x, y] (by omega) (two_rd w1 x y) (by simpa using ⟨hx, hy⟩) (Bnd.ch hb (h1.alloc _) (by simp)) v.ph v.sw v.laid a.ag a.agl a.al v.grey.length v.globals.length v.lanes.length a.cg a.cgl a.cl)
  have HCF := Lib.hid (fun (w1 : World) (h1 : Ch [] w w1) (hx : w1.heap[w.heap.size]? = some (.cells (a.arr v) 65 (0, 0))) => ContainsFuncL_any w1 a v w.heap.size (Bnd.ch hb h1 (by simp)) (hv.ch h1) hr hx)
  have HN0 : Hid (numsOk v = false → mayV v = false) := Lib.hid mayV_nums
  have HN1 : Hid (rightW v.cells.length v.globals = false → mayV v = false) := Lib.hid mayV_globals
  have HNU : Hid (numsOk v = (!(decide (3 < v.ph)) && (!(decide (v.sw < 0)) && (!(decide ((v.cells.length : Int) < v.sw)) && (!(decide (v.laid < 0)) && !(decide ((v.globals.length : Int) < v.laid))))))) := Lib.hid rfl
  have HMV : Hid (mayV v = (numsOk v && (rightW v.cells.length v.globals && (v.cells.all (cellOk v.cells.length) && (greyOk v.cells v.grey && (decide (greyN v.cells = v.grey.length) && v.lanes.all (fun l => rightW v.cells.length l.roots))))))) := Lib.hid rfl
  have HV := Lib.hid hv
  have HR := Lib.hid hr
  have HBX := Lib.hid hbx
  have HC0 := Lib.hid C0
  have KX : Hid (∀ w1 : World, Ch [] W w1 → w1.cell? ⟨w.heap.size, 0, none⟩ = some (.slice a.ac v.cells.length a.cc) ∧ w1.cell? ⟨w.heap.size, 1, none⟩ = some (.int .u8 v.ph) ∧ w1.cell? ⟨w.heap.size, 2, none⟩ = some (.int .i64 v.sw) ∧ w1.cell? ⟨w.heap.size, 3, none⟩ = some (.slice a.ag v.grey.length a.cg) ∧ w1.cell? ⟨w.heap.size, 4, none⟩ = some (.slice a.agl v.globals.length a.cgl) ∧ w1.cell? ⟨w.heap.size, 5, none⟩ = some (.int .i64 v.laid) ∧ w1.cell? ⟨w.heap.size, 6, none⟩ = some (.slice a.al v.lanes.length a.cl)) := Lib.hid (fun w1 h1 => by
    have hh := h1.heap HBX.out (by simp)
    unfold VA.arr at hh
    exact ⟨cell_at hh, cell_at hh, cell_at hh, cell_at hh, cell_at hh, cell_at hh, cell_at hh⟩)
  have n1 := hr.n1
  have n2 := hr.n2
  have hp := hr.ph
  have hmk : ∀ w : World, _ := fun w => run_make_ints w v.cells.length (by omega)
  have HPP : Hid (∀ x, x = mayV v → x = mayV v) := Lib.hid (fun _ h => h)
  unfold VA.arr
  unfold VA.arr at hW
  obtain ⟨ck0, ck1, ck2, ck3, ck4, ck5, ck6⟩ := KX.out W (Ch.refl _ _)
  clear hv hr hb hbx C0
  generalize hmr : mayV v = R at *
  generalize hng : v.globals.length = ng at *
  generalize hn : v.cells.length = n at *
  generalize hgl : v.grey.length = gl at *
  generalize hnl : v.lanes.length = nl at *
  generalize hph : v.ph = ph at *
  generalize hsw : v.sw = sw at *
  generalize hld : v.laid = ld at *
  have HN := Lib.hid hn
  have HGL := Lib.hid hgl
  clear hng hnl hph hsw hld hn hgl hmr HPP
  go_enter Tryd.func67, Tryd.ntmps67
  by_cases p3 : 3 < ph
  · subst hW
    go_wp2_with fail
    go_ret
    exact ⟨by rw [HN0.out (by rw [HNU.out]; simp [p3])]; rfl, HC0.out⟩
  · have p3' : ph ≤ 3 := by omega
    by_cases s0 : sw < 0
    · subst hW
      go_wp2_with fail
      go_ret
      exact ⟨by rw [HN0.out (by rw [HNU.out]; simp [s0])]; rfl, HC0.out⟩
    · have s0' : 0 ≤ sw := by omega
      by_cases s1 : (n : Int) < sw
      · subst hW
        go_wp2_with fail
        go_ret
        exact ⟨by rw [HN0.out (by rw [HNU.out]; simp [s1])]; rfl, HC0.out⟩
      · have s1' : sw ≤ n := by omega
        by_cases l0 : ld < 0
        · subst hW
          go_wp2_with fail
          go_ret
          exact ⟨by rw [HN0.out (by rw [HNU.out]; simp [l0])]; rfl, HC0.out⟩
        · have l0' : 0 ≤ ld := by omega
          by_cases l1 : (ng : Int) < ld
          · subst hW
            go_wp2_with fail
            go_ret
            exact ⟨by rw [HN0.out (by rw [HNU.out]; simp [l1])]; rfl, HC0.out⟩
          · have l1' : ld ≤ ng := by omega
            have HNS : Hid (numsOk v = true) := Lib.hid (by rw [HNU.out]; simp [p3, s0, s1, l0, l1])
            go_wp2_with fail
            rw [← hW]
            clear hW HNU HN0
            cases hrg : rightW n v.globals
            · have HF := Lib.hid (HN1.out hrg)
              rw [hrg] at RG
              clear hrg
              refine RG.mono ?_
              rintro e w2 ⟨rfl, h2⟩
              go_wp2_with fail
              go_ret
              exact ⟨by rw [HF.out]; rfl, HC0.out.trans' h2⟩
            · have HRG := Lib.hid hrg
              rw [hrg] at RG
              clear hrg
              refine RG.mono ?_
              rintro e w2 ⟨rfl, h2⟩
              have H2 := Lib.hid h2
              obtain ⟨ck0, ck1, ck2, ck3, ck4, ck5, ck6⟩ := KX.out w2 h2
              clear RG h2 ck0 ck1 ck2 ck3 ck4 ck5 ck6
              obtain ⟨dk0, dk1, dk2, dk3, dk4, dk5, dk6⟩ := KX.out w2 H2.out
              go_wp2_with fail
              have Z0 : Hid (Ch [] W w2) := H2
              clear dk0 dk1 dk2 dk3 dk4 dk5 dk6 ck0 ck1 ck2 ck3 ck4 ck5 ck6 p3 p3' s0 s0' s1 s1' l0 l0' l1 l1' HN1
              go_loopw [48, 3] (fun i g wr => ∃ k : Nat, k ≤ n ∧ i = .int .i64 k ∧ g = .int .i64 (greyN (v.cells.take k) : Nat) ∧ Ch [] W wr ∧ ∀ j, j < k → cellOk n (v.cells.getD j z) = true) (fun i _ _ => n - (intOf i).toNat)
              case atStart => exact ⟨0, by omega, rfl, rfl, Z0.out, fun j hj => absurd hj (by omega)⟩
              case round =>
                obtain ⟨k, hk, rfl, rfl, hc, hf⟩ := hrel
                have HC := Lib.hid hc
                have HF := Lib.hid hf
                clear hf
                by_cases hlt : k < n
                · have hkl : k < v.cells.length := by rw [HN.out]; exact hlt
                  obtain ⟨b, off, hab, hbn, hj⟩ := HV.out.cells.2.resolve_left (by rw [HN.out]; omega)
                  have hA : ∀ t, t < 4 → wr.cell? ⟨b, off + (k * 4 + t), none⟩ = (celV (v.cells.getD k z))[t]? := fun t ht => by
                    have h3 := (hj (k * 4 + t) (by omega)).trans (flat_get v.cells k t hkl ht)
                    rw [List.getElem?_eq_getElem (by simp [celV]; omega)] at h3 ⊢
                    exact (HC0.out.trans' hc).cell h3 (by simp)
                  have a0 := hA 0 (by omega)
                  have a1 := hA 1 (by omega)
                  have a2 := hA 2 (by omega)
                  have a3 := hA 3 (by omega)
                  obtain ⟨i1, i2, i3, i4, i5, i6⟩ := InR.at HR.out.cells k hkl
                  have HBAD : Hid (cellOk n (v.cells.getD k z) = false → R = false) := Lib.hid (fun h => by rw [HMV.out, ← mayV_cell k hkl (by rw [HN.out]; exact h)]; unfold mayV; rw [HN.out, HGL.out])
                  have HGN := Lib.hid (greyN_take v.cells k hkl)
                  have HOK : Hid (cellOk n (v.cells.getD k z) = true → ∀ j, j < k + 1 → cellOk n (v.cells.getD j z) = true) := Lib.hid (fun h j hj => by
                    by_cases e : j = k
                    · rw [e]; exact h
                    · exact HF.out j (by omega))
                  have hgl1 : greyN (v.cells.take k) ≤ 1000000 := by have := greyN_le (v.cells.take k); rw [List.length_take] at this; omega
                  generalize v.cells.getD k z = x at *
                  generalize greyN (v.cells.take k) = gk at *
                  obtain ⟨ck, cc, ca, cb⟩ := x
                  simp only [celV, List.getElem?_cons_zero, List.getElem?_cons_succ, Nat.add_zero, ← Nat.add_assoc] at a0 a1 a2 a3
                  simp only at i1 i2 i3 i4 i5 i6
                  unfold cellOk at HBAD HOK
                  unfold isGrey at HGN
                  simp only at HBAD HOK HGN
                  have CA : Ch [] wr (wr.alloc (.cells #[.int .u8 ck, .int .u8 cc, .int .u64 ca, .int .u64 cb] 58)) := (Ch.refl _ _).alloc _
                  have HCA := Lib.hid CA
                  obtain ⟨e0, e1, e2, e3, e4, e5, e6⟩ := KX.out _ (hc.trans' CA)
                  have RR := HRW.out _ (HC0.out.trans' (hc.trans' CA)) ca cb i5 i6
                  rw [World.size_alloc] at RR
                  have ltI : (k : Int) < n := by omega
                  clear hj hbn hA hkl hc CA
                  rw [hab]
                  clear hab
                  by_cases k3 : 3 < ck
                  · go_wp2_with fail
                    go_ret
                    exact ⟨by rw [HBAD.out (by simp [k3])]; rfl, HC0.out.trans' (HC.out.trans' HCA.out)⟩
                  · have k3' : ck ≤ 3 := by omega
                    by_cases c2 : 2 < cc
                    · go_wp2_with fail
                      go_ret
                      exact ⟨by rw [HBAD.out (by simp [c2])]; rfl, HC0.out.trans' (HC.out.trans' HCA.out)⟩
                    · have c2' : cc ≤ 2 := by omega
                      by_cases k0 : ck = 0
                      · subst k0
                        go_wp2_with fail
                        go_roundw
                        case rel => exact ⟨k + 1, by omega, by go_num, by rw [HGN.out]; rfl, HC.out.trans' HCA.out, HOK.out (by simp [c2])⟩
                        case measure => simp [intOf]; omega
                      · have k0' : (ck != 0) = true := by simpa using k0
                        cases hrr : rightW n [ca, cb]
                        · rw [hrr] at RR
                          have HRR := Lib.hid hrr
                          clear hrr
                          go_wp2_with fail
                          refine RR.mono ?_
                          rintro e w3 ⟨rfl, h3⟩
                          clear RR
                          go_wp2_with fail
                          go_ret
                          exact ⟨by rw [HBAD.out (by simp [k0, HRR.out])]; rfl, HC0.out.trans' (HC.out.trans' (HCA.out.trans' (((Ch.refl [] _).alloc _).trans' h3)))⟩
                        · rw [hrr] at RR
                          have HRR := Lib.hid hrr
                          clear hrr
                          go_wp2_with fail
                          refine RR.mono ?_
                          rintro e w3 ⟨rfl, h3⟩
                          have H3 := Lib.hid (((Ch.refl [] _).alloc (.cells #[.int .u64 ca, .int .u64 cb] 24)).trans' h3)
                          have hnc := H3.out.heap (heap_new wr (.cells #[.int .u8 ck, .int .u8 cc, .int .u64 ca, .int .u64 cb] 58)) (by simp)
                          have d0 := cell_at (i := 0) hnc
                          have d1 := cell_at (i := 1) hnc
                          simp only [List.getElem?_toArray, List.getElem?_cons_zero, List.getElem?_cons_succ] at d0 d1
                          clear RR h3 hnc a0 a1 a2 a3 e0 e1 e2 e3 e4 e5 e6
                          by_cases c1 : cc = 1
                          · subst c1
                            go_wp2_with fail
                            go_roundw
                            case rel => exact ⟨k + 1, by omega, by go_num, by rw [HGN.out]; simp [k0], HC.out.trans' (HCA.out.trans' H3.out), HOK.out (by simp [k3, HRR.out])⟩
                            case measure => simp [intOf]; omega
                          · have c1' : (cc == 1) = false := by simpa using c1
                            go_wp2_with fail
                            go_roundw
                            case rel => exact ⟨k + 1, by omega, by go_num, by rw [HGN.out]; simp [c1], HC.out.trans' (HCA.out.trans' H3.out), HOK.out (by simp [k3, c2, HRR.out])⟩
                            case measure => simp [intOf]; omega
                · obtain rfl : k = n := by omega
                  have HALL : Hid (v.cells.all (cellOk k) = true) := Lib.hid (by
                    rw [all_getD]; intro j hj; exact HF.out j (by rw [← HN.out]; exact hj))
                  have hgk : greyN (v.cells.take k) = greyN v.cells := by rw [List.take_of_length_le (by rw [HN.out]; exact Nat.le_refl _)]
                  have hgle : greyN v.cells ≤ 1000000 := by have := greyN_le v.cells; rw [HN.out] at this; omega
                  rw [hgk]
                  have HGK := Lib.hid hgk
                  clear hgk
                  generalize hgg : greyN v.cells = gg at *
                  have HGG := Lib.hid hgg
                  clear hgg
                  have CA : Ch [] wr (wr.alloc (.cells (nv (List.replicate k 0)).toArray 3)) := (Ch.refl _ _).alloc _
                  obtain ⟨b0, b1, b2, b3, b4, b5, b6⟩ := KX.out _ hc
                  obtain ⟨e0, e1, e2, e3, e4, e5, e6⟩ := KX.out _ (hc.trans' CA)
                  have HM0 : Hid ((wr.alloc (.cells (nv (List.replicate k 0)).toArray 3)).heap[wr.heap.size]? = some (.cells (ints .i64 (List.replicate k 0)).toArray 3 (0, 0))) := Lib.hid (by rw [← nv_zero]; exact heap_new wr _)
                  have HC1 := Lib.hid (hc.trans' CA)
                  have HSZ : Hid (W.heap.size ≤ wr.heap.size) := Lib.hid hc.size
                  clear hc CA HC HF
                  go_wp2_with fail
                  clear b0 b1 b2 b3 b4 b5 b6 e0 e1 e2 e3 e4 e5 e6
                  obtain ⟨mb, hmb⟩ : ∃ mb, mb = wr.heap.size := ⟨_, rfl⟩
                  rw [← hmb] at HM0 HSZ ⊢
                  clear hmb
                  go_loopw [93] (fun i wr => ∃ (j : Nat) (ml : List Int), j ≤ gl ∧ i = .int .i64 j ∧ MetI k (v.grey.take j) ml ∧ wr.heap[mb]? = some (.cells (ints .i64 ml).toArray 3 (0, 0)) ∧ Ch [] W wr ∧ (v.grey.take j).Nodup ∧ ∀ i, i < j → greyC v.cells (v.grey.getD i 0) = true) (fun i _ => gl - (intOf i).toNat)
                  case atStart => exact ⟨0, List.replicate k 0, by omega, rfl, MetI.start k, HM0.out, HC1.out, by simp, fun i hi => absurd hi (by omega)⟩
                  case round =>
                    obtain ⟨j, ml, hj, rfl, hmi, hm, hc, hnd, hgc⟩ := hrel
                    obtain ⟨e0, e1, e2, e3, e4, e5, e6⟩ := KX.out _ hc
                    have HC := Lib.hid hc
                    have HM := Lib.hid hm
                    have HMI := Lib.hid hmi
                    have HND := Lib.hid hnd
                    have HGC := Lib.hid hgc
                    by_cases hlt : j < gl
                    · have hjl : j < v.grey.length := by rw [HGL.out]; exact hlt
                      have ltJ : (j : Int) < gl := by omega
                      obtain ⟨b, off, hag, hbn, hcg⟩ := HV.out.grey.2.resolve_left (by rw [HGL.out]; omega)
                      have a1 := (HC0.out.trans' hc).cell ((hcg j (by omega)).trans (ints_get hjl)) (by simp)
                      have hgr := HR.out.grey (v.grey.getD j 0) (by rw [show v.grey.getD j 0 = v.grey[j] by simp [List.getD, hjl]]; exact List.getElem_mem hjl)
                      have HBAD : Hid (greyC v.cells (v.grey.getD j 0) = false → R = false) := Lib.hid (fun h => by rw [HMV.out, greyOk_bad j hjl h]; simp)
                      have HDUP : Hid (v.grey.getD j 0 ∈ v.grey.take j → R = false) := Lib.hid (fun h => by rw [HMV.out, greyOk_dup j hjl h]; simp)
                      have HTK := Lib.hid (take_snoc v.grey j 0 hjl)
                      have HNX : Hid (greyC v.cells (v.grey.getD j 0) = true → ∀ i, i < j + 1 → greyC v.cells (v.grey.getD i 0) = true) := Lib.hid (fun h i hi => by
                        by_cases e : i = j
                        · rw [e]; exact h
                        · exact HGC.out i (by omega))
                      generalize v.grey.getD j 0 = g at *
                      rw [hag]
                      clear hjl hag hbn hcg hc hm hmi hnd hgc
                      by_cases g0 : g < 0
                      · go_wp2_with fail
                        go_ret
                        exact ⟨by rw [HBAD.out (by simp [greyC]; omega)]; rfl, HC0.out.trans' HC.out⟩
                      · obtain ⟨c, rfl⟩ : ∃ c : Nat, g = c := ⟨g.toNat, by omega⟩
                        by_cases cn : c < k
                        · have ltC : (c : Int) < k := by omega
                          have hch : c < v.cells.length := by rw [HN.out]; exact cn
                          obtain ⟨bh, offh, hab, _, hjh⟩ := HV.out.cells.2.resolve_left (by rw [HN.out]; omega)
                          have hA : ∀ t, t < 4 → wr.cell? ⟨bh, offh + (c * 4 + t), none⟩ = (celV (v.cells.getD c z))[t]? := fun t ht => by
                            have h3 := (hjh (c * 4 + t) (by rw [HN.out]; omega)).trans (flat_get v.cells c t hch ht)
                            rw [List.getElem?_eq_getElem (by simp [celV]; omega)] at h3 ⊢
                            exact (HC0.out.trans' HC.out).cell h3 (by simp)
                          have a2 := hA 0 (by omega)
                          have a3 := hA 1 (by omega)
                          have hgC : Hid (greyC v.cells (c : Int) = isGrey (v.cells.getD c z)) := Lib.hid (by unfold greyC; rw [Int.toNat_natCast, HN.out]; simp; intro _; exact cn)
                          unfold isGrey at hgC
                          generalize v.cells.getD c z = x at *
                          obtain ⟨xk, xc, xa, xb⟩ := x
                          simp only [celV, List.getElem?_cons_zero, List.getElem?_cons_succ, Nat.add_zero, ← Nat.add_assoc] at a2 a3
                          simp only at hgC
                          have hmt := HMI.out.at_ c cn
                          have a4 := cell_at (i := c) HM.out
                          rw [List.getElem?_toArray, ints_get (by rw [HMI.out.len]; exact cn), hmt] at a4
                          have f4 := free_at (i := c) HM.out
                          rw [hab] at e0 ⊢
                          clear hab hjh hA hch hmt
                          by_cases k0 : xk = 0
                          · subst k0
                            go_wp2_with fail
                            go_ret
                            exact ⟨by rw [HBAD.out (by rw [hgC.out]; simp)]; rfl, HC0.out.trans' HC.out⟩
                          · have k0' : (xk == 0) = false := by simpa using k0
                            by_cases c1 : xc = 1
                            · subst c1
                              by_cases hin : (c : Int) ∈ v.grey.take j
                              · have HD := Lib.hid (HDUP.out hin)
                                rw [if_pos hin] at a4
                                clear hin
                                go_wp2_with fail
                                go_ret
                                exact ⟨by rw [HD.out]; rfl, HC0.out.trans' HC.out⟩
                              · rw [if_neg hin] at a4
                                have HIN := Lib.hid hin
                                clear hin
                                go_wp2_with fail
                                go_roundw
                                case rel =>
                                  refine ⟨j + 1, ml.set c 1, by omega, by go_num, by rw [HTK.out]; exact HMI.out.put c cn, by rw [← int_set]; exact heap_set HM.out _, HC.out.setCell _ _ (.inr HSZ.out), ?_, HNX.out (by rw [hgC.out]; simp [k0])⟩
                                  rw [HTK.out, List.nodup_append]
                                  exact ⟨HND.out, by simp, fun a ha b hb e => HIN.out (by simp at hb; rw [← hb, ← e]; exact ha)⟩
                                case measure => simp [intOf]; omega
                            · have c1' : (xc != 1) = true := by simpa using c1
                              go_wp2_with fail
                              go_ret
                              exact ⟨by rw [HBAD.out (by rw [hgC.out]; simp [c1])]; rfl, HC0.out.trans' HC.out⟩
                        · have ltC : ¬ (c : Int) < k := by omega
                          go_wp2_with fail
                          go_ret
                          exact ⟨by rw [HBAD.out (by unfold greyC; rw [HN.out]; simp; intro h; exact absurd h cn)]; rfl, HC0.out.trans' HC.out⟩
                    · obtain rfl : gl = j := by omega
                      have CF := HCF.out wr (HC0.out.trans' hc) (hc.heap HBX.out (by simp))
                      have HGO : Hid (greyOk v.cells v.grey = true) := Lib.hid (greyOk_good (fun i hi => hgc i (by rw [← HGL.out]; exact hi)) (by rw [List.take_of_length_le (by rw [HGL.out]; exact Nat.le_refl _)] at hnd; exact hnd))
                      have HRE : Hid (R = (decide (gg = gl) && v.lanes.all (fun l => rightW k l.roots))) := Lib.hid (by rw [HMV.out, HNS.out, HRG.out, HALL.out, HGO.out]; simp)
                      clear hmi hm hc hnd hgc HM HMI HND HGC
                      by_cases hgl : gg = gl
                      · subst hgl
                        cases hla : v.lanes.all (fun l => rightW k l.roots)
                        · rw [hla] at CF
                          have HLA := Lib.hid hla
                          clear hla
                          go_wp2_with fail
                          refine CF.mono ?_
                          rintro e w4 ⟨rfl, h4⟩
                          go_wp2_with fail
                          go_ret
                          exact ⟨by rw [HRE.out, HLA.out]; simp, HC0.out.trans' (HC.out.trans' h4)⟩
                        · rw [hla] at CF
                          have HLA := Lib.hid hla
                          clear hla
                          go_wp2_with fail
                          refine CF.mono ?_
                          rintro e w4 ⟨rfl, h4⟩
                          go_wp2_with fail
                          go_ret
                          exact ⟨by rw [HRE.out, HLA.out]; simp, HC0.out.trans' (HC.out.trans' h4)⟩
                      · have hgl' : ((gg : Int) == (gl : Int)) = false := by rw [beq_eq_false_iff_ne]; omega
                        have HNE := Lib.hid hgl
                        clear hgl CF
                        go_wp2_with fail
                        go_ret
                        exact ⟨by rw [HRE.out, decide_eq_false HNE.out]; simp, HC0.out.trans' HC.out⟩
end Go.Proofs.YtlhhcocdhkbdnaaDoor.Bp
