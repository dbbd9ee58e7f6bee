/-
  THE WALK of dappleref13.Right.
-/
import Derived.Test.YtlhhcocdhkbdnaaDoorQView13
import Derived.Test.YtlhhcocdhkbdnaaDoorQView3
import Derived.Test.YtlhhcocdhkbdnaaDoorQJRef10b
import Derived.StillTail
import Derived.StillTactics
import Derived.StillTailTactics
set_option linter.unusedVariables false
set_option linter.unusedSimpArgs false
set_option maxRecDepth 100000
namespace Go.Proofs.YtlhhcocdhkbdnaaDoor.L13
open Go.RowKit Go.Proofs.YtlhhcocdhkbdnaaDoor.Wd Go.Proofs.YtlhhcocdhkbdnaaDoor.Hp Go.Proofs.YtlhhcocdhkbdnaaDoor.Gp Go.Proofs.YtlhhcocdhkbdnaaDoor.Sm Go.Proofs.YtlhhcocdhkbdnaaDoor.Gr Go.Proofs.YtlhhcocdhkbdnaaDoor.Bp
def hasL (n : Nat) (l : List Int) : List Bool := (List.range n).map (fun (i : Nat) => decide ((i : Int) ∈ l))
theorem hasL_len (n : Nat) (l : List Int) : (hasL n l).length = n := by simp [hasL]
theorem hasL_get (n : Nat) (l : List Int) (c : Nat) (hc : c < n) : (hasL n l).getD c true = decide ((c : Int) ∈ l) := by
  simp [hasL, List.getD_eq_getElem?_getD, hc]
theorem hasL_nil (n : Nat) : hasL n [] = List.replicate n false := by
  apply List.ext_getElem?
  intro i
  simp only [hasL, List.getElem?_map, List.getElem?_replicate]
  by_cases h : i < n <;> simp [h]
theorem hasL_put (n : Nat) (l : List Int) (c : Nat) (hc : c < n) : (hasL n l).set c true = hasL n (l ++ [(c : Int)]) := by
  apply bools_ext
  · simp [hasL]
  · intro d hd
    rw [List.length_set, hasL_len] at hd
    rw [getD_setB _ _ _ (by rw [hasL_len]; exact hc), hasL_get _ _ d hd, hasL_get _ _ d hd]
    by_cases e : d = c
    · subst e; simp
    · rw [if_neg e]
      simp only [decide_eq_true_eq, List.mem_append, List.mem_singleton]
      constructor
      · exact .inl
      · intro h; exact h.resolve_right (by omega)
theorem white13_any (w : World) (k c a b : Int) : Calls Tryd.prog 87 #[.agg #[.int .u8 k, .int .u8 c, .int .u64 a, .int .u64 b]] w fun e w' => e = .returned (.bool (whiteC ⟨k, c, a, b⟩)) ∧ Ch [] w w' := by
  have HC := Lib.hid ((Ch.refl [] w).alloc (.cells #[.int .u8 k, .int .u8 c, .int .u64 a, .int .u64 b] 58))
  unfold whiteC
  simp only
  by_cases h1 : k = 0
  · subst h1
    go_enter Tryd.func87, Tryd.ntmps87
    go_wp2_with fail
    go_ret
    exact ⟨rfl, HC.out⟩
  · have h1' : (k != 0) = true := by simpa using h1
    rw [h1']
    clear h1
    go_enter Tryd.func87, Tryd.ntmps87
    go_wp2_with fail
    go_ret
    exact ⟨by simp, HC.out⟩
theorem right_lane {v : Vw} (j : Nat) (hj : j < v.lanes.length) (h : may v.cells (v.lanes.getD j ln0).roots = false) : rightV v = false := by
  have : v.lanes.all (fun l => may v.cells l.roots) = false := by
    rw [List.all_eq_false]
    exact ⟨v.lanes.getD j ln0, lane_mem hj, by rw [h]; simp⟩
  simp [rightV, this]
theorem right_out {v : Vw} (j : Nat) (hj : j < v.grey.length) (h : v.grey.getD j 0 < 0 ∨ (v.cells.length : Int) ≤ v.grey.getD j 0) : rightV v = false := by
  have : greyIn v.cells.length v.grey = false := by
    unfold greyIn
    have : v.grey.all (fun c => decide (0 ≤ c) && decide (c < (v.cells.length : Int))) = false := by
      rw [List.all_eq_false]
      refine ⟨v.grey.getD j 0, by rw [show v.grey.getD j 0 = v.grey[j] by simp [List.getD, hj]]; exact List.getElem_mem hj, ?_⟩
      simp only [Bool.and_eq_true, decide_eq_true_eq]
      omega
    rw [this]; rfl
  simp [rightV, this]
theorem right_dup {v : Vw} (j : Nat) (hj : j < v.grey.length) (h : v.grey.getD j 0 ∈ v.grey.take j) : rightV v = false := by
  have hg := greyOk_dup (h := v.cells) j hj h
  rw [rightV_eq]
  exact mayV_grey hg
theorem right_same {v : Vw} (i : Nat) (hi : i < v.cells.length) (h : decide ((i : Int) ∈ v.grey) ≠ isGrey (v.cells.getD i z)) : rightV v = false := by
  have : greySame v = false := by
    unfold greySame
    rw [List.all_eq_false]
    exact ⟨i, List.mem_range.2 hi, by simpa using h⟩
  simp [rightV, this]
theorem right_good {v : Vw} (h1 : numsOk v = true) (h2 : may v.cells v.globals = true) (h3 : ∀ j, j < v.lanes.length → may v.cells (v.lanes.getD j ln0).roots = true) (h4 : ∀ j, j < v.grey.length → 0 ≤ v.grey.getD j 0 ∧ v.grey.getD j 0 < (v.cells.length : Int)) (h5 : v.grey.Nodup) (h6 : ∀ i, i < v.cells.length → decide ((i : Int) ∈ v.grey) = isGrey (v.cells.getD i z)) : rightV v = true := by
  unfold rightV greyIn greySame
  simp only [Bool.and_eq_true, List.all_eq_true, decide_eq_true_eq, beq_iff_eq, List.mem_range]
  refine ⟨h1, h2, fun l hl => ?_, ⟨fun c hc => ?_, (nodupB_iff _).2 h5⟩, h6⟩
  · obtain ⟨i, hi, rfl⟩ := mem_getD ln0 hl
    exact h3 i hi
  · obtain ⟨i, hi, rfl⟩ := mem_getD 0 hc
    exact h4 i hi
set_option maxHeartbeats 4000000 in
theorem Right13_any (w : World) (a : VA) (v : Vw) (hv : VM w a v) (hr : VR v) :
    Calls Tryd.prog 85 #[.agg (a.arr v)] w fun e w' => e = .returned (.bool (rightV v)) ∧ Ch [] w w' := by
  obtain ⟨W, hW⟩ : ∃ W, W = w.alloc (.cells (a.arr v) 65) := ⟨_, rfl⟩
  have C0 : Ch [] w W := by rw [hW]; exact (Ch.refl _ _).alloc _
  have hbx : W.heap[w.heap.size]? = some (.cells (a.arr v) 65 (0, 0)) := by rw [hW]; exact heap_new w _
  have RG := R10.Right_any W a.ac a.cc v.cells a.agl v.globals.length a.cgl v.globals (by have := hr.n1; omega) (by have := hr.n3; omega) (hv.ch C0).cells (hv.ch C0).globals hr.cells hr.globals
  have HRL := Lib.hid (fun (w1 : World) (h1 : Ch [] w w1) (j : Nat) (hj : j < v.lanes.length) => R10.Right_any w1 a.ac a.cc v.cells (a.la j) (v.lanes.getD j ln0).roots.length (a.lc j) (v.lanes.getD j ln0).roots (by have := hr.n1; omega) (by have := rootsN_mem (lane_mem hj); have := hr.n5; omega) (hv.ch h1).cells ((hv.ch h1).roots j hj) hr.cells (hr.roots _ (lane_mem hj)))
  have HNU : Hid (numsOk v = (!(decide (3 < v.ph)) && (!(decide (v.sw < 0)) && (!(decide ((v.cells.length : Int) < v.sw)) && (!(decide (v.laid < 0)) && !(decide ((v.globals.length : Int) < v.laid))))))) := Lib.hid rfl
  have HN0 : Hid (numsOk v = false → rightV v = false) := Lib.hid (fun h => by simp [rightV, h])
  have HN1 : Hid (may v.cells v.globals = false → rightV v = false) := Lib.hid (fun h => by simp [rightV, h])
  have HN2 := Lib.hid (fun j hj h => right_lane (v := v) j hj h)
  have HN3 := Lib.hid (fun j hj h => right_out (v := v) j hj h)
  have HN4 := Lib.hid (fun j hj h => right_dup (v := v) j hj h)
  have HN5 := Lib.hid (fun j hj h => right_same (v := v) j hj h)
  have HGO := Lib.hid (fun h1 h2 h3 h4 h5 h6 => right_good (v := v) h1 h2 h3 h4 h5 h6)
  have HV := Lib.hid hv
  have HR := Lib.hid hr
  have HBX := Lib.hid hbx
  have HC0 := Lib.hid C0
  have KX : Hid (∀ w1 : World, Ch [] W w1 → w1.cell? ⟨w.heap.size, 0, none⟩ = some (.slice a.ac v.cells.length a.cc) ∧ w1.cell? ⟨w.heap.size, 1, none⟩ = some (.int .u8 v.ph) ∧ w1.cell? ⟨w.heap.size, 2, none⟩ = some (.int .i64 v.sw) ∧ w1.cell? ⟨w.heap.size, 3, none⟩ = some (.slice a.ag v.grey.length a.cg) ∧ w1.cell? ⟨w.heap.size, 4, none⟩ = some (.slice a.agl v.globals.length a.cgl) ∧ w1.cell? ⟨w.heap.size, 5, none⟩ = some (.int .i64 v.laid) ∧ w1.cell? ⟨w.heap.size, 6, none⟩ = some (.slice a.al v.lanes.length a.cl)) := Lib.hid (fun w1 h1 => by
    have hh := h1.heap HBX.out (by simp)
    unfold VA.arr at hh
    exact ⟨cell_at hh, cell_at hh, cell_at hh, cell_at hh, cell_at hh, cell_at hh, cell_at hh⟩)
  have n1 := hr.n1
  have n2 := hr.n2
  have n4 := hr.n4
  have hp := hr.ph
  have hmk : ∀ w : World, _ := fun w => run_make_bools w v.cells.length (by omega)
  unfold VA.arr
  unfold VA.arr at hW
  obtain ⟨ck0, ck1, ck2, ck3, ck4, ck5, ck6⟩ := KX.out W (Ch.refl _ _)
  clear hv hr hbx C0
  generalize hmr : rightV v = R at *
  generalize hng : v.globals.length = ng at *
  generalize hn : v.cells.length = n at *
  generalize hgl : v.grey.length = gl at *
  generalize hnl : v.lanes.length = nl at *
  generalize hph : v.ph = ph at *
  generalize hsw : v.sw = sw at *
  generalize hld : v.laid = ld at *
  have HN := Lib.hid hn
  have HGL := Lib.hid hgl
  have HNL := Lib.hid hnl
  clear hng hnl hph hsw hld hn hgl hmr
  go_enter Tryd.func85, Tryd.ntmps85
  by_cases p3 : 3 < ph
  · subst hW
    go_wp2_with fail
    go_ret
    exact ⟨by rw [HN0.out (by rw [HNU.out]; simp [p3])]; rfl, HC0.out⟩
  · have p3' : ph ≤ 3 := by omega
    by_cases s0 : sw < 0
    · subst hW
      go_wp2_with fail
      go_ret
      exact ⟨by rw [HN0.out (by rw [HNU.out]; simp [s0])]; rfl, HC0.out⟩
    · have s0' : 0 ≤ sw := by omega
      by_cases s1 : (n : Int) < sw
      · subst hW
        go_wp2_with fail
        go_ret
        exact ⟨by rw [HN0.out (by rw [HNU.out]; simp [s1])]; rfl, HC0.out⟩
      · have s1' : sw ≤ n := by omega
        by_cases l0 : ld < 0
        · subst hW
          go_wp2_with fail
          go_ret
          exact ⟨by rw [HN0.out (by rw [HNU.out]; simp [l0])]; rfl, HC0.out⟩
        · have l0' : 0 ≤ ld := by omega
          by_cases l1 : (ng : Int) < ld
          · subst hW
            go_wp2_with fail
            go_ret
            exact ⟨by rw [HN0.out (by rw [HNU.out]; simp [l1])]; rfl, HC0.out⟩
          · have l1' : ld ≤ ng := by omega
            have HNS : Hid (numsOk v = true) := Lib.hid (by rw [HNU.out]; simp [p3, s0, s1, l0, l1])
            go_wp2_with fail
            rw [← hW]
            clear hW HNU HN0
            cases hrg : may v.cells v.globals
            · have HF := Lib.hid (HN1.out hrg)
              rw [hrg] at RG
              clear hrg
              refine RG.mono ?_
              rintro e w2 ⟨rfl, h2⟩
              go_wp2_with fail
              go_ret
              exact ⟨by rw [HF.out]; rfl, HC0.out.trans' h2⟩
            · have HRG := Lib.hid hrg
              rw [hrg] at RG
              clear hrg
              refine RG.mono ?_
              rintro e w2 ⟨rfl, h2⟩
              have H2 := Lib.hid h2
              clear RG h2 ck0 ck1 ck2 ck3 ck4 ck5 ck6 p3 p3' s0 s0' s1 s1' l0 l0' l1 l1' HN1
              go_wp2_with fail
              go_loopw [3, 4] (fun ok i wr => ∃ k : Nat, k ≤ nl ∧ ok = .bool true ∧ i = .int .i64 k ∧ Ch [] W wr ∧ ∀ j, j < k → may v.cells (v.lanes.getD j ln0).roots = true) (fun _ i _ => nl - (intOf i).toNat)
              case atStart => exact ⟨0, by omega, rfl, rfl, H2.out, fun j hj => absurd hj (by omega)⟩
              case round =>
                obtain ⟨k, hk, rfl, rfl, hc, hf⟩ := hrel
                have HC := Lib.hid hc
                have HF := Lib.hid hf
                clear hf H2
                obtain ⟨ck0, ck1, ck2, ck3, ck4, ck5, ck6⟩ := KX.out wr hc
                by_cases hlt : k < nl
                · have hkl : k < v.lanes.length := by rw [HNL.out]; exact hlt
                  have ltI : (k : Int) < nl := by omega
                  obtain ⟨b, off, hal, c1, c2, c3⟩ := (HV.out.ch (HC0.out.trans' hc)).lane k hkl
                  have RL := HRL.out wr.drew ((HC0.out.trans' hc).drew) k (by rw [← HNL.out]; exact hkl)
                  have HBAD := Lib.hid (HN2.out k (by rw [← HNL.out]; exact hkl))
                  rw [hal] at ck6
                  rw [hal]
                  clear hc hkl c2 c3 hal
                  generalize hm : may v.cells (v.lanes.getD k ln0).roots = mk at *
                  have HM := Lib.hid hm
                  clear hm
                  generalize (v.lanes.getD k ln0).roots.length = xl at *
                  generalize a.la k = xa at *
                  generalize a.lc k = xc at *
                  go_wp2_with fail
                  go_still_tail 8, (by kernel_rfl)
                  change wpList _ _ _ _ _ wr.drew
                  have HCD := Lib.hid HC.out.drew
                  clear ck0 ck1 ck2 ck3 ck4 ck5 ck6 c1
                  generalize wr.drew = wd at *
                  cases mk
                  · go_wp2_with fail
                    refine RL.mono ?_
                    rintro e w3 ⟨rfl, h3⟩
                    clear RL
                    go_wp2_with fail
                    go_ret
                    exact ⟨by rw [HBAD.out (by simp)]; rfl, HC0.out.trans' (HCD.out.trans' h3)⟩
                  · go_wp2_with fail
                    refine RL.mono ?_
                    rintro e w3 ⟨rfl, h3⟩
                    have H3 := Lib.hid (HCD.out.trans' h3)
                    clear RL h3
                    go_wp2_with fail
                    go_roundw
                    case rel => exact ⟨k + 1, by omega, rfl, by go_num, H3.out, fun j hj => by
                      rcases Nat.lt_or_ge j k with h | h
                      · exact HF.out j h
                      · obtain rfl : j = k := by omega
                        exact HM.out⟩
                    case measure => simp [intOf]; omega
                · obtain rfl : k = nl := by omega
                  have CA : Ch [] wr (wr.alloc (.cells (bv (List.replicate n false)).toArray 4)) := (Ch.refl _ _).alloc _
                  have HB := Lib.hid (heap_new wr (.cells (bv (List.replicate n false)).toArray 4))
                  have HCA := Lib.hid (HC.out.trans' CA)
                  have HMB : Hid (W.heap.size ≤ wr.heap.size) := Lib.hid hc.size
                  clear hc CA
                  go_wp2_with fail
                  clear ck0 ck1 ck2 ck3 ck4 ck5 ck6
                  generalize hm : wr.heap.size = m at *
                  clear hm
                  go_loopw [6] (fun i wx => ∃ j : Nat, j ≤ gl ∧ i = .int .i64 j ∧ wx.heap[m]? = some (.cells (bv (hasL n (v.grey.take j))).toArray 4 (0, 0)) ∧ Ch [] W wx ∧ (v.grey.take j).Nodup ∧ ∀ i, i < j → 0 ≤ v.grey.getD i 0 ∧ v.grey.getD i 0 < (n : Int)) (fun i _ => gl - (intOf i).toNat)
                  case atStart => exact ⟨0, by omega, rfl, by rw [List.take_zero, hasL_nil]; exact HB.out, HCA.out, by simp, fun i hi => absurd hi (by omega)⟩
                  case round =>
                    obtain ⟨j, hj, rfl, hm, hc, hnd, hin⟩ := hrel
                    have HM := Lib.hid hm
                    have HCX := Lib.hid hc
                    have HND := Lib.hid hnd
                    have HIN := Lib.hid hin
                    clear HB HCA
                    obtain ⟨ck0, ck1, ck2, ck3, ck4, ck5, ck6⟩ := KX.out _ hc
                    by_cases hlt : j < gl
                    · have hjl : j < v.grey.length := by rw [HGL.out]; exact hlt
                      have ltI : (j : Int) < gl := by omega
                      obtain ⟨b, off, hag, _, hcg⟩ := HV.out.grey.2.resolve_left (by omega)
                      have a1 := (HC0.out.trans' hc).cell ((hcg j (by omega)).trans (ints_get hjl)) (by simp)
                      have hgr := HR.out.grey (v.grey.getD j 0) (by rw [show v.grey.getD j 0 = v.grey[j] by simp [List.getD, hjl]]; exact List.getElem_mem hjl)
                      have HOUT := Lib.hid (HN3.out j (by rw [← HGL.out]; exact hjl))
                      have HDUP := Lib.hid (HN4.out j (by rw [← HGL.out]; exact hjl))
                      have HTK := Lib.hid (take_snoc v.grey j 0 hjl)
                      have HIN2 : Hid (0 ≤ v.grey.getD j 0 ∧ v.grey.getD j 0 < (n : Int) → ∀ i, i < j + 1 → 0 ≤ v.grey.getD i 0 ∧ v.grey.getD i 0 < (n : Int)) := Lib.hid (fun h i hi => by
                        by_cases e : i = j
                        · rw [e]; exact h
                        · exact HIN.out i (by omega))
                      rw [hag] at ck3
                      rw [hag]
                      clear hag hcg hnd hin
                      generalize v.grey.getD j 0 = g at *
                      by_cases g0 : g < 0
                      · clear hc hm
                        go_wp2_with fail
                        go_ret
                        exact ⟨by rw [HOUT.out (.inl g0)]; rfl, HC0.out.trans' HCX.out⟩
                      · obtain ⟨c, rfl⟩ : ∃ c : Nat, g = c := ⟨g.toNat, by omega⟩
                        by_cases cn : c < n
                        · have ltC : (c : Int) < n := by omega
                          have a4 := cell_at (i := c) hm
                          rw [bv_get (by rw [hasL_len]; exact cn), hasL_get _ _ c cn] at a4
                          have f4 := free_at (i := c) hm
                          clear hc hm g0 hgr
                          by_cases hin : (c : Int) ∈ v.grey.take j
                          · have HD := Lib.hid (HDUP.out hin)
                            rw [decide_eq_true hin] at a4
                            clear hin
                            go_wp2_with fail
                            go_ret
                            exact ⟨by rw [HD.out]; rfl, HC0.out.trans' HCX.out⟩
                          · rw [decide_eq_false hin] at a4
                            have HI := Lib.hid hin
                            clear hin
                            go_wp2_with fail
                            go_roundw
                            case rel =>
                              refine ⟨j + 1, by omega, by go_num, by rw [HTK.out, ← hasL_put _ _ c cn, ← bv_set]; exact heap_set HM.out _, HCX.out.setCell _ _ (.inr HMB.out), ?_, HIN2.out ⟨by omega, by omega⟩⟩
                              rw [HTK.out, List.nodup_append]
                              exact ⟨HND.out, by simp, fun a ha b hb e => HI.out (by simp at hb; rw [← hb, ← e]; exact ha)⟩
                            case measure => simp [intOf]; omega
                        · have ltC : ¬ (c : Int) < n := by omega
                          have geC : (n : Int) ≤ c := by omega
                          clear hc hm g0
                          go_wp2_with fail
                          go_ret
                          exact ⟨by rw [HOUT.out (.inr geC)]; rfl, HC0.out.trans' HCX.out⟩
                    · obtain rfl : j = gl := by omega
                      have HNDF : Hid (v.grey.Nodup) := Lib.hid (by rw [← HGL.out, List.take_length] at hnd; exact hnd)
                      have HB2 : Hid (∀ w', Ch [] _ w' → w'.heap[m]? = some (.cells (bv (hasL n v.grey)).toArray 4 (0, 0))) := Lib.hid (fun w' h' => by rw [← HGL.out, List.take_length] at hm; exact h'.heap hm (by simp))
                      clear hc hm hnd hin
                      go_wp2_with fail
                      clear ck0 ck1 ck2 ck3 ck4 ck5 ck6
                      go_loopw [8] (fun i wy => ∃ i' : Nat, i' ≤ n ∧ i = .int .i64 i' ∧ Ch [] _ wy ∧ ∀ e, e < i' → decide ((e : Int) ∈ v.grey) = isGrey (v.cells.getD e z)) (fun i _ => n - (intOf i).toNat)
                      case atStart => exact ⟨0, by omega, rfl, Ch.refl _ _, fun i hi => absurd hi (by omega)⟩
                      case round =>
                        obtain ⟨i, hi, rfl, hc, hs⟩ := hrel
                        have HS := Lib.hid hs
                        have HCW := Lib.hid (HCX.out.trans' hc)
                        obtain ⟨ck0, ck1, ck2, ck3, ck4, ck5, ck6⟩ := KX.out _ HCW.out
                        have hb2 := HB2.out _ hc
                        have HCC := Lib.hid hc
                        by_cases hlt : i < n
                        · have hil : i < v.cells.length := by rw [HN.out]; exact hlt
                          have ltI : (i : Int) < n := by omega
                          obtain ⟨bh, offh, hab, _, hjh⟩ := HV.out.cells.2.resolve_left (by omega)
                          have hA : ∀ t, t < 4 → World.cell? _ ⟨bh, offh + (i * 4 + t), none⟩ = (celV (v.cells.getD i z))[t]? := fun t ht => by
                            have h3 := (hjh (i * 4 + t) (by omega)).trans (flat_get v.cells i t hil ht)
                            rw [List.getElem?_eq_getElem (by simp [celV]; omega)] at h3 ⊢
                            exact (HC0.out.trans' HCW.out).cell h3 (by simp)
                          have d0 := hA 0 (by omega)
                          have d1 := hA 1 (by omega)
                          have b4 := cell_at (i := i) hb2
                          rw [bv_get (by rw [hasL_len]; exact hlt), hasL_get _ _ i hlt] at b4
                          have HBAD := Lib.hid (HN5.out i (by rw [← HN.out]; exact hil))
                          have HOKS : Hid (decide ((i : Int) ∈ v.grey) = isGrey (v.cells.getD i z) → ∀ e, e < i + 1 → decide ((e : Int) ∈ v.grey) = isGrey (v.cells.getD e z)) := Lib.hid (fun h e he => by
                            by_cases e1 : e = i
                            · rw [e1]; exact h
                            · exact HS.out e (by omega))
                          rw [hab] at ck0
                          rw [hab]
                          clear hab hjh hA hc hs hb2
                          generalize v.cells.getD i z = y at *
                          obtain ⟨ck, cc, ca, cb⟩ := y
                          simp only [celV, List.getElem?_cons_zero, List.getElem?_cons_succ, Nat.add_zero, ← Nat.add_assoc] at d0 d1
                          unfold isGrey at HBAD HOKS
                          simp only at HBAD HOKS
                          generalize hdm : decide ((i : Int) ∈ v.grey) = dm at *
                          clear hdm
                          by_cases k0 : ck = 0
                          · subst k0
                            cases dm
                            · go_wp2_with fail
                              go_roundw
                              case rel => exact ⟨i + 1, by omega, by go_num, HCC.out, HOKS.out (by simp)⟩
                              case measure => simp [intOf]; omega
                            · go_wp2_with fail
                              go_ret
                              exact ⟨by rw [HBAD.out (by simp)]; rfl, HC0.out.trans' HCW.out⟩
                          · have k0' : (ck != 0) = true := by simpa using k0
                            by_cases c1 : cc = 1
                            · subst c1
                              cases dm
                              · go_wp2_with fail
                                go_ret
                                exact ⟨by rw [HBAD.out (by rw [k0']; simp)]; rfl, HC0.out.trans' HCW.out⟩
                              · go_wp2_with fail
                                go_roundw
                                case rel => exact ⟨i + 1, by omega, by go_num, HCC.out, HOKS.out (by rw [k0']; simp)⟩
                                case measure => simp [intOf]; omega
                            · have c1' : (cc == 1) = false := by simpa using c1
                              cases dm
                              · go_wp2_with fail
                                go_roundw
                                case rel => exact ⟨i + 1, by omega, by go_num, HCC.out, HOKS.out (by rw [k0', c1']; simp)⟩
                                case measure => simp [intOf]; omega
                              · go_wp2_with fail
                                go_ret
                                exact ⟨by rw [HBAD.out (by rw [k0', c1']; simp)]; rfl, HC0.out.trans' HCW.out⟩
                        · obtain rfl : i = n := by omega
                          have Z := Lib.hid (HGO.out HNS.out HRG.out (fun j hj => HF.out j (by first | exact hj | (rw [← HNL.out]; exact hj))) (fun j hj => by have := HIN.out j (by first | exact hj | (rw [← HGL.out]; exact hj)); omega) HNDF.out (fun e he => hs e (by first | exact he | (rw [← HN.out]; exact he))))
                          clear hc hs hb2
                          go_wp2_with fail
                          go_ret
                          exact ⟨by rw [Z.out]; rfl, HC0.out.trans' HCW.out⟩
end Go.Proofs.YtlhhcocdhkbdnaaDoor.L13
