/-
  THE WALK of dappleref10.far and names.
-/
import Derived.Test.YtggijcebobjghaaDoorQPathsP
import Derived.Test.YtggijcebobjghaaDoorQJRef10b
set_option linter.unusedVariables false
set_option linter.unusedSimpArgs false
set_option maxRecDepth 100000
namespace Go.Proofs.YtggijcebobjghaaDoor.Rp
open Go.RowKit Go.Proofs.YtggijcebobjghaaDoor.Wd Go.Proofs.YtggijcebobjghaaDoor.Hp Go.Proofs.YtggijcebobjghaaDoor.Gr Go.Proofs.YtggijcebobjghaaDoor.Gp Go.Proofs.YtggijcebobjghaaDoor.Sm Go.Proofs.YtggijcebobjghaaDoor.Bf Go.Proofs.YtggijcebobjghaaDoor.Pa
/-- What is so of every state. -/
structure RI (n B : Nat) (s : RS) : Prop where
  len : s.1.length = n
  nd : s.2.Nodup
  mem : ∀ c ∈ s.2, c < n ∧ 1 ≤ s.1.getD c 0
  bnd : ∀ c, s.1.getD c 0 ≤ B
theorem RI.mono {n B B' : Nat} {s : RS} (h : RI n B s) (hb : B ≤ B') : RI n B' s := ⟨h.len, h.nd, h.mem, fun c => Nat.le_trans (h.bnd c) hb⟩
theorem RI.le {n B : Nat} {s : RS} (h : RI n B s) : s.2.length ≤ n := by
  have := h.nd.length_le_of_subset (l₂ := List.range n) (fun c hc => List.mem_range.2 (h.mem c hc).1)
  simpa using this
theorem RI.step {n B v : Nat} {s : RS} (h : RI n B s) (c : Nat) (hc : c < n) (h1 : 1 ≤ v) (hv : v ≤ B) : RI n B (stC v s c) := by
  unfold stC
  split
  · next hz =>
    have hl := h.len
    have hnm : c ∉ s.2 := fun hx => by have := (h.mem c hx).2; omega
    refine ⟨by simpa using h.len, ?_, fun x hx => ?_, fun x => ?_⟩
    · rw [List.nodup_append]
      exact ⟨h.nd, by simp, fun a ha b hb => by simp at hb; subst hb; exact fun e => hnm (e ▸ ha)⟩
    · simp only [List.mem_append, List.mem_singleton] at hx ⊢
      rw [getD_setN _ _ _ _ (by omega)]
      rcases hx with hx | rfl
      · rw [if_neg (fun e => hnm (by rw [← e]; exact hx))]; exact h.mem x hx
      · rw [if_pos rfl]; exact ⟨hc, h1⟩
    · simp only
      rw [getD_setN _ _ _ _ (by omega)]
      split
      · exact hv
      · exact h.bnd x
  · exact h
theorem RI.start (n : Nat) : RI n 1 (List.replicate n 0, []) := by
  refine ⟨by simp, List.nodup_nil, by simp, fun c => ?_⟩
  simp only [List.getD_eq_getElem?_getD, List.getElem?_replicate]
  split <;> simp
/-- A word's cell is stood for. -/
def stO (v : Nat) (s : RS) (x : Int) : RS := if isRef x = true then stC v s (cellN x).toNat else s
theorem stM_refs (v : Nat) : ∀ (l : List Int) (s : RS), stM v s (refs l) = l.foldl (stO v) s
  | [], s => rfl
  | x :: l, s => by
    rw [List.foldl_cons, ← stM_refs v l]
    unfold refs stO stM
    by_cases hx : isRef x = true <;> simp [hx]
theorem stC_keep {v c r : Nat} {s : RS} (h : 1 ≤ s.1.getD r 0) : (stC v s c).1.getD r 0 = s.1.getD r 0 := by
  unfold stC
  split
  · next hz =>
    have : r ≠ c := fun e => by subst e; omega
    simp only
    rw [List.getD_eq_getElem?_getD, List.getElem?_set_ne (Ne.symm this), ← List.getD_eq_getElem?_getD]
  · rfl
theorem stC_pre {v c i r : Nat} {s : RS} (h : s.2[i]? = some r) : (stC v s c).2[i]? = some r := by
  unfold stC
  split
  · rw [List.getElem?_append_left (by rcases Nat.lt_or_ge i s.2.length with h1 | h1; exact h1; rw [List.getElem?_eq_none h1] at h; cases h)]; exact h
  · exact h
theorem stC_zero {v c : Nat} {s : RS} (h : s.1.getD c 0 = 0) : (stC v s c).2.length = s.2.length + 1 := by unfold stC; rw [if_pos h]; simp
theorem stC_same {v c : Nat} {s : RS} (h : ¬ s.1.getD c 0 = 0) : stC v s c = s := by unfold stC; rw [if_neg h]
/-- The two lists that are being written. -/
structure FR (w0 : World) (ob : Nat) (w : World) (ov : Value) (s : RS) (oq : List Nat) : Prop where
  out : w.heap[ob]? = some (.cells (nv s.1).toArray 3 (0, 0))
  row : Row w 3 1 ov oq s.2.length (nv s.2)
  ch : Ch [] w0 w
  new : w0.heap.size ≤ ob
  oo : ∀ q ∈ oq, q ≠ ob ∧ w0.heap.size ≤ q
theorem FR.row2 {w0 w : World} {ob : Nat} {ov : Value} {s : RS} {oq : List Nat} (h : FR w0 ob w ov s oq) (c : Nat) (u : Value) (o : Obj) : Row ((w.setCell ⟨ob, c, none⟩ u).alloc o) 3 1 ov oq s.2.length (nv s.2) :=
  h.row.ch (((Ch.refl [ob] w).setCell ⟨ob, c, none⟩ u (.inl (by simp))).alloc o) (fun q hq hm => (h.oo q hq).1 (by simpa using hm))
theorem FR.put {w0 w w4 : World} {ob : Nat} {ov v' : Value} {s : RS} {oq qs' : List Nat} (h : FR w0 ob w ov s oq) {c v : Nat} (hz : s.1.getD c 0 = 0) {o : Obj}
    (hr4 : Row w4 3 1 v' qs' (s.2.length + 1) (nv s.2 ++ [.int .i64 c])) (hc4 : Ch oq ((w.setCell ⟨ob, c, none⟩ (.int .i64 v)).alloc o) w4)
    (hq4 : qs' = oq ∨ ∃ q', qs' = [q'] ∧ w.heap.size + 1 ≤ q' ∧ q' < w4.heap.size) : FR w0 ob w4 v' (stC v s c) qs' := by
  have e : stC v s c = (s.1.set c v, s.2 ++ [c]) := by unfold stC; rw [if_pos hz]
  have hw := lt_of h.out
  have C1 : Ch [] w0 ((w.setCell ⟨ob, c, none⟩ (.int .i64 v)).alloc o) := (h.ch.setCell ⟨ob, c, none⟩ (.int .i64 v) (.inr h.new)).alloc o
  rw [e]
  refine ⟨?_, by simpa [nv] using hr4, C1.trans hc4 (fun x hx => .inr (h.oo x hx).2), h.new, fun q hq => ?_⟩
  · have h1 := heap_old (o' := o) (heap_set (i := c) h.out (.int .i64 v))
    rw [nv_set] at h1
    exact hc4.heap h1 (fun hm => (h.oo _ hm).1 rfl)
  · rcases hq4 with rfl | ⟨q', rfl, h1, h2⟩
    · exact h.oo q hq
    · simp at hq; subst hq
      have := h.ch.size
      omega
theorem stL_stop (h : List Cel) (k i : Nat) (s : RS) (hi : s.2.length ≤ i) : stL h k i s = s := by
  cases k with
  | zero => rfl
  | succ k => rw [stL, if_neg (by omega)]
theorem nm_or (h : List Cel) (c k : Nat) : nm h c k = (!(decide ((h.getD c z).k = 0)) && ((isRef (h.getD c z).a && decide (cellN (h.getD c z).a = (k : Int))) || (isRef (h.getD c z).b && decide (cellN (h.getD c z).b = (k : Int))))) := by
  unfold nm nf wordsOf
  generalize h.getD c z = cel
  have ra := cellN_range cel.a
  have rb := cellN_range cel.b
  rw [Bool.eq_iff_iff, decide_eq_true_eq, refs_mem]
  by_cases hk : cel.k = 0
  · rw [if_pos hk]; simp [hk]
  · rw [if_neg hk]
    simp only [List.mem_cons, List.not_mem_nil, or_false, Bool.and_eq_true, Bool.or_eq_true, Bool.not_eq_true', decide_eq_false_iff_not, decide_eq_true_eq]
    constructor
    · rintro ⟨v, rfl | rfl, h1, h2⟩
      · exact ⟨hk, .inl ⟨h1, by omega⟩⟩
      · exact ⟨hk, .inr ⟨h1, by omega⟩⟩
    · rintro ⟨_, ⟨h1, h2⟩ | ⟨h1, h2⟩⟩
      · exact ⟨_, .inl rfl, h1, by omega⟩
      · exact ⟨_, .inr rfl, h1, by omega⟩
set_option maxHeartbeats 4000000 in
theorem names_any (w : World) (ao : Option Addr) (cap : Nat) (h : List Cel) (c k : Nat) (hn : h.length ≤ 1000000) (hc : c < h.length) (hr : RdF w ao (h.length * 4) (flat h) []) (hh : ∀ x ∈ h, InR x) :
    Calls Tryd.prog 68 #[.slice ao h.length cap, .int .i64 c, .int .i64 k] w fun e w' => e = .returned (.bool (nm h c k)) ∧ w' = w := by
  obtain ⟨bh, oh, rfl, _, hhj⟩ := hr.2.resolve_left (by omega)
  have hA : ∀ t, t < 4 → w.cell? ⟨bh, oh + (c * 4 + t), none⟩ = (celV (h.getD c z))[t]? := fun t ht => (hhj (c * 4 + t) (by omega)).trans (flat_get h c t hc ht)
  have d0 := hA 0 (by omega)
  have d2 := hA 2 (by omega)
  have d3 := hA 3 (by omega)
  obtain ⟨_, _, _, _, i5, i6⟩ := InR.at hh c hc
  have HE := Lib.hid (nm_or h c k)
  generalize h.getD c z = cel at *
  obtain ⟨ck, cc, ca, cb⟩ := cel
  simp only [celV, List.getElem?_cons_zero, List.getElem?_cons_succ, Nat.add_zero, ← Nat.add_assoc] at d0 d2 d3
  simp only at i5 i6 HE
  have C1 := Rd.Cell_any w ca i5.1 i5.2
  have C2 := Rd.Cell_any w cb i6.1 i6.2
  have ltC : (c : Int) < h.length := by omega
  clear hhj hA hr hh i5 i6 hc
  generalize nm h c k = NM at *
  generalize h.length = n at *
  by_cases k0 : ck = 0
  · subst k0
    go_enter Tryd.func68, Tryd.ntmps68
    go_wp2_with fail
    go_ret
    exact ⟨by rw [HE.out]; rfl, rfl⟩
  · have hk0 : (ck == 0) = false := by simpa using k0
    have HK := Lib.hid k0
    generalize isRef ca = ia at *
    generalize isRef cb = ib at *
    generalize cellN ca = xa at *
    generalize cellN cb = xb at *
    clear k0
    by_cases qa : xa = (k : Int) <;> by_cases qb : xb = (k : Int)
    · subst qa qb
      cases ia <;> cases ib
      all_goals
        go_enter Tryd.func68, Tryd.ntmps68
        go_wp2_with fail
        refine C1.mono ?_
        rintro e w2 ⟨rfl, rfl⟩
        go_wp2_with fail
        refine C2.mono ?_
        rintro e w2 ⟨rfl, rfl⟩
        go_wp2_with fail
        go_ret
        refine ⟨?_, rfl⟩
        rw [HE.out]
        have := HK.out
        simp [this]
    · subst qa
      have eb : (xb == (k : Int)) = false := by simpa using qb
      have QB := Lib.hid qb
      clear qb
      cases ia <;> cases ib
      all_goals
        go_enter Tryd.func68, Tryd.ntmps68
        go_wp2_with fail
        refine C1.mono ?_
        rintro e w2 ⟨rfl, rfl⟩
        go_wp2_with fail
        refine C2.mono ?_
        rintro e w2 ⟨rfl, rfl⟩
        go_wp2_with fail
        go_ret
        refine ⟨?_, rfl⟩
        rw [HE.out]
        have := HK.out
        simp [this, QB.out]
    · subst qb
      have ea : (xa == (k : Int)) = false := by simpa using qa
      have QA := Lib.hid qa
      clear qa
      cases ia <;> cases ib
      all_goals
        go_enter Tryd.func68, Tryd.ntmps68
        go_wp2_with fail
        refine C1.mono ?_
        rintro e w2 ⟨rfl, rfl⟩
        go_wp2_with fail
        refine C2.mono ?_
        rintro e w2 ⟨rfl, rfl⟩
        go_wp2_with fail
        go_ret
        refine ⟨?_, rfl⟩
        rw [HE.out]
        have := HK.out
        simp [this, QA.out]
    · have ea : (xa == (k : Int)) = false := by simpa using qa
      have eb : (xb == (k : Int)) = false := by simpa using qb
      have QA := Lib.hid qa
      have QB := Lib.hid qb
      clear qa qb
      cases ia <;> cases ib
      all_goals
        go_enter Tryd.func68, Tryd.ntmps68
        go_wp2_with fail
        refine C1.mono ?_
        rintro e w2 ⟨rfl, rfl⟩
        go_wp2_with fail
        refine C2.mono ?_
        rintro e w2 ⟨rfl, rfl⟩
        go_wp2_with fail
        go_ret
        refine ⟨?_, rfl⟩
        rw [HE.out]
        have := HK.out
        simp [this, QA.out, QB.out]
set_option maxHeartbeats 8000000 in
theorem far_any (w : World) (ao : Option Addr) (cap : Nat) (h : List Cel) (aw : Option Addr) (m cw : Nat) (ws : List Int) (hn : h.length ≤ 1000000) (hm : m ≤ 1000000)
    (hr : RdF w ao (h.length * 4) (flat h) []) (hrw : RdF w aw m (ints .u64 ws) []) (hh : ∀ x ∈ h, InR x) (hu : ∀ v ∈ ws, Gp.u64 v) (hmay : may h ws = true) :
    Calls Tryd.prog 67 #[.slice ao h.length cap, .slice aw m cw] w fun e w' => ∃ ob, e = .returned (.slice (some ⟨ob, 0, none⟩) h.length h.length) ∧ w'.heap[ob]? = some (.cells (nv (all h ws)).toArray 3 (0, 0)) ∧ Ch [] w w' := by
  have hwl : ws.length = m := by simpa [ints] using hrw.1
  have HR := Lib.hid hr
  have HRW := Lib.hid hrw
  have HH := Lib.hid hh
  have HU := Lib.hid hu
  have HMY := Lib.hid hmay
  have HWL := Lib.hid hwl
  have HRT := Lib.hid (may_roots hmay)
  have HCL := Lib.hid (may_cells hmay)
  obtain ⟨n, hnl⟩ : ∃ n, n = h.length := ⟨_, rfl⟩
  have HN := Lib.hid hnl
  have hmk := run_make_ints w n (by omega)
  rw [← hnl] at hn HR HRT HCL ⊢
  have F0 : Hid (FR w w.heap.size (w.alloc (.cells (nv (List.replicate n 0)).toArray 3)) (.slice none 0 0) (([] : List Int).foldl (stO 1) (List.replicate n 0, [])) []) := Lib.hid ⟨heap_new _ _, Row.nil _ _ _ _, (Ch.refl _ _).alloc _, Nat.le_refl _, by simp⟩
  obtain ⟨ob, hob⟩ : ∃ ob, ob = w.heap.size := ⟨_, rfl⟩
  rw [← hob] at hmk F0
  clear hr hrw hh hu hmay hwl hnl hob
  go_enter Tryd.func67, Tryd.ntmps67
  go_wp2_with fail
  clear hmk
  generalize w.alloc (.cells (nv (List.replicate n 0)).toArray 3) = w1 at *
  go_loopw [7, 6] (fun i o wr => ∃ (j : Nat) (s : RS) (qs : List Nat), i = .int .i64 j ∧ j ≤ m ∧ s = (ws.take j).foldl (stO 1) (List.replicate n 0, []) ∧ RI n 1 s ∧ FR w ob wr o s qs) (fun i _ _ => m - (intOf i).toNat)
  case atStart => exact ⟨0, _, [], rfl, by omega, rfl, RI.start n, F0.out⟩
  case round =>
    obtain ⟨j, s, qs, rfl, hj, hs, hri, hfr⟩ := hrel
    obtain ⟨an, cn, rfl, _⟩ := hfr.row.rd
    by_cases hlt : j < m
    · as_aux_lemma =>
      have hjl : j < ws.length := by rw [HWL.out]; exact hlt
      obtain ⟨bw, ow, rfl, _, hwj⟩ := HRW.out.2.resolve_left (by omega)
      have a1 := hfr.ch.cell ((hwj j hlt).trans (ints_get hjl)) (by simp)
      have hvm : ws.getD j 0 ∈ ws := by simp [List.getD_eq_getElem?_getD, hjl]
      have NX : Hid ((ws.take (j + 1)).foldl (stO 1) (List.replicate n 0, []) = stO 1 s (ws.getD j 0)) := Lib.hid (by rw [take_snoc ws j 0 hjl, List.foldl_append, ← hs]; rfl)
      have hxu := HU.out _ hvm
      have hxc := HRT.out _ hvm
      generalize ws.getD j 0 = x at *
      have CC := Rd.Cell_any wr x hxu.1 hxu.2
      have hrg := cellN_range x
      have ltI : (j : Int) < m := by omega
      have hle := hri.le
      have hll := hri.len
      have HRI := Lib.hid hri
      have HFR := Lib.hid hfr
      clear hwj hvm hxu hs hri
      unfold stO at NX
      cases hx : isRef x
      · rw [hx] at CC NX
        simp only [Bool.false_eq_true, if_false] at NX
        clear hxc hx hrg hfr
        generalize cellN x = xc at *
        go_wp2_with fail
        refine CC.mono ?_
        rintro e w5 ⟨rfl, rfl⟩
        clear CC
        go_wp2_with fail
        go_roundw
        case rel => exact ⟨j + 1, s, qs, by go_num, by omega, NX.out.symm, HRI.out, HFR.out⟩
        case measure => simp [intOf]; omega
      · have hcl := hxc hx
        rw [hx] at CC NX
        simp only [if_true] at NX
        obtain ⟨c, hc⟩ : ∃ c : Nat, c = (cellN x).toNat := ⟨_, rfl⟩
        have hcv : cellN x = (c : Int) := by omega
        rw [← hc] at NX hcl
        rw [hcv] at CC
        have b1 := cell_at (i := c) hfr.out
        rw [List.getElem?_toArray, nv_at _ _ (by rw [hll]; exact hcl)] at b1
        have f1 := free_at (i := c) hfr.out
        have ltC : (c : Int) < n := by omega
        have HCL2 := Lib.hid hcl
        clear hx hc hcv hrg hxc hcl
        by_cases hz : s.1.getD c 0 = 0
        · rw [hz] at b1
          have HZ := Lib.hid hz
          have HR1 := Lib.hid (hfr.row2 c (.int .i64 ((1 : Nat) : Int)) (.cells #[.int .i64 c] 3))
          have HN1 := Lib.hid (newL (w := wr.setCell ⟨ob, c, none⟩ (.int .i64 ((1 : Nat) : Int))) (b := wr.heap.size) (by simp [World.setCell]) [.int .i64 c] 3)
          obtain ⟨i0, hi, he⟩ := Option.map_eq_some_iff.1 infoInt
          simp only [Prod.mk.injEq] at he
          obtain ⟨hz0, hz1, hz2⟩ := he
          obtain ⟨l, hl⟩ : ∃ l, l = s.2.length := ⟨_, rfl⟩
          rw [← hl] at HR1 hle ⊢
          have HL := Lib.hid hl
          clear hfr hz hl
          go_wp2_with fail
          refine CC.mono ?_
          rintro e w5 ⟨rfl, rfl⟩
          clear CC
          go_wp2_with (at_builtin; go_loud (refine wpList_append_row _ rfl _ _ 59 rfl 3 i0 _ 1 8 Tryd.underlying59 hi hz0 hz1 hz2 rfl (by decide) rfl HR1.out ⟨w5.heap.size, 0, none⟩ 1 1 [.int .i64 c] rfl rfl HN1.out (one1 _ _) (by unfold maxLen; omega) (by omega) ?_))
          intro v' w6 qs' hr4 hc4 hq4
          rw [HL.out] at hr4
          have HF := Lib.hid (HFR.out.put HZ.out hr4 hc4 hq4)
          obtain ⟨ao4, cap4, rfl, _⟩ := hr4.rd
          clear hr4 hc4 hq4
          go_wp2_with fail
          go_roundw
          case rel =>
            have hlen : (stC 1 s c).2.length = s.2.length + 1 := by unfold stC; rw [if_pos HZ.out]; simp
            refine ⟨j + 1, stC 1 s c, qs', by go_num, by omega, NX.out.symm, HRI.out.step c HCL2.out (Nat.le_refl _) (Nat.le_refl _), ?_⟩
            have := HF.out
            exact this
          case measure => simp [intOf]; omega
        · have e : stC 1 s c = s := by unfold stC; rw [if_neg hz]
          rw [e] at NX
          generalize s.1.getD c 0 = y at *
          have hz' : ((y : Int) == 0) = false := by simp; omega
          clear hfr hz e
          go_wp2_with fail
          refine CC.mono ?_
          rintro e w5 ⟨rfl, rfl⟩
          clear CC
          go_wp2_with fail
          go_roundw
          case rel => exact ⟨j + 1, s, qs, by go_num, by omega, NX.out.symm, HRI.out, HFR.out⟩
          case measure => simp [intOf]; omega
    · as_aux_lemma =>
      obtain rfl : m = j := by omega
      have ltI : ¬ (m : Int) < m := by omega
      have hs0 : s = st0 n ws := by
        rw [hs, List.take_of_length_le (by rw [HWL.out]; exact Nat.le_refl _)]
        unfold st0; rw [stM_refs]
      have HALL : Hid (stL h (n + 1 - 0) 0 s = allS h ws) := Lib.hid (by rw [hs0]; unfold allS; rw [← HN.out]; rfl)
      have HRI := Lib.hid hri
      have HFR := Lib.hid hfr
      clear hs hs0 hri hfr F0 HRT HRW HU
      go_wp2_with fail
      go_loopw [10, 6] (fun i o wr => ∃ (j : Nat) (s : RS) (qs : List Nat), i = .int .i64 j ∧ j ≤ s.2.length ∧ stL h (n + 1 - j) j s = allS h ws ∧ RI n (j + 1) s ∧ FR w ob wr o s qs) (fun i _ _ => n - (intOf i).toNat)
      case atStart => exact ⟨0, s, qs, rfl, Nat.zero_le _, HALL.out, HRI.out, HFR.out⟩
      case round =>
        clear HALL HRI HFR
        obtain ⟨j, s, qs, rfl, hj, hst, hri, hfr⟩ := hrel
        have hle := hri.le
        obtain ⟨an, cn, rfl, n1, n2, n3⟩ := hfr.row.rd
        rw [Nat.mul_one] at n3
        by_cases hlt : j < s.2.length
        · as_aux_lemma =>
          have hri2 := hri.mono (B' := j + 1 + 1) (by omega)
          obtain ⟨r, hrr⟩ : ∃ r, s.2[j]? = some r := ⟨_, List.getElem?_eq_getElem hlt⟩
          have hrD : s.2.getD j 0 = r := by rw [List.getD_eq_getElem?_getD, hrr]; rfl
          have hrm := hri.mem r (List.mem_of_getElem? hrr)
          have HNX : Hid (stL h (n + 1 - (j + 1)) (j + 1) ((wordsOf h r).foldl (stO (s.1.getD r 0 + 1)) s) = allS h ws) := Lib.hid (by
            rw [show n + 1 - j = (n + 1 - (j + 1)) + 1 by omega, stL, if_pos hlt, hrD] at hst
            rw [← hst, ← stM_refs]; rfl)
          have hV := hri.bnd r
          obtain ⟨bn, on, rfl, hnj⟩ := n3.2.resolve_left (by omega)
          have a1 := hnj j hlt
          rw [show (nv s.2)[j]? = some (.int .i64 r) by rw [nv_at _ _ hlt, hrD]] at a1
          have a2 := cell_at (i := r) hfr.out
          rw [List.getElem?_toArray, nv_at _ _ (by rw [hri.len]; exact hrm.1)] at a2
          have hrl : r < h.length := by rw [← HN.out]; exact hrm.1
          obtain ⟨bh, oh, rfl, _, hhj⟩ := (HR.out.ch hfr.ch (T' := []) (by simp)).2.resolve_left (by omega)
          have hA : ∀ t, t < 4 → wr.cell? ⟨bh, oh + (r * 4 + t), none⟩ = (celV (h.getD r z))[t]? := fun t ht => (hhj (r * 4 + t) (by omega)).trans (flat_get h r t hrl ht)
          have HAW : Hid (∀ W t, Ch [] w W → t < 4 → W.cell? ⟨bh, oh + (r * 4 + t), none⟩ = (celV (h.getD r z))[t]?) := Lib.hid (fun W t c ht => by
            have hc := HR.out.ch c (T' := []) (by simp)
            obtain ⟨b', o', e1, _, hx⟩ := hc.2.resolve_left (by omega)
            simp only [Option.some.injEq, Addr.mk.injEq] at e1
            obtain ⟨rfl, rfl, _⟩ := e1
            exact (hx (r * 4 + t) (by omega)).trans (flat_get h r t hrl ht))
          have d0 := hA 0 (by omega)
          have d2 := hA 2 (by omega)
          have d3 := hA 3 (by omega)
          have HKC := Lib.hid (HCL.out r hrm.1)
          obtain ⟨_, _, _, _, i5, i6⟩ := InR.at HH.out r hrl
          unfold wordsOf at HNX HKC
          generalize h.getD r z = cel at *
          obtain ⟨ck, cc, ca, cb⟩ := cel
          simp only [celV, List.getElem?_cons_zero, List.getElem?_cons_succ, Nat.add_zero, ← Nat.add_assoc] at d0 d2 d3
          simp only at i5 i6 HNX HKC
          have HV1 := Lib.hid hrm.2
          obtain ⟨V, hVe⟩ : ∃ V, V = s.1.getD r 0 := ⟨_, rfl⟩
          rw [← hVe] at a2 hV HNX HV1
          obtain ⟨v, hve⟩ : ∃ v, v = V + 1 := ⟨_, rfl⟩
          have hvI : (V : Int) + 1 = (v : Int) := by omega
          have hvb : v ≤ j + 1 + 1 := by omega
          have hv1 : 1 ≤ v := by omega
          rw [← hve] at HNX
          have ltJ : (j : Int) < s.2.length := by omega
          have ltR : (r : Int) < n := by omega
          have HFR := Lib.hid hfr
          have HRI2 := Lib.hid hri2
          have HVE := Lib.hid hVe
          have HRR := Lib.hid hrr
          have HRL := Lib.hid hrm.1
          have HLEN := Lib.hid hri.len
          have HVB := Lib.hid (And.intro hv1 hvb)
          clear hst hri hri2 hrr hrD hrm hnj hhj hA hVe hve hrl n1 n2 n3 hj hvb hv1
          by_cases k0 : ck = 0
          · as_aux_lemma =>
            subst k0
            simp only [if_true, List.foldl_nil] at HNX
            obtain ⟨l, hl⟩ : ∃ l, l = s.2.length := ⟨_, rfl⟩
            rw [← hl] at ltJ hle hlt HFR ⊢
            have HL := Lib.hid hl
            clear hfr hl
            go_wp2_with fail
            go_roundw
            case rel => exact ⟨j + 1, s, qs, by go_num, by rw [← HL.out]; omega, HNX.out, HRI2.out, HFR.out⟩
            case measure => simp [intOf]; omega
          have hk0 : (ck == 0) = false := by simpa using k0
          rw [if_neg k0] at HNX HKC
          simp only [List.foldl_cons, List.foldl_nil] at HNX
          have okA := HKC.out ca (by simp)
          have okB := HKC.out cb (by simp)
          have CA : Hid (∀ W, Calls Tryd.prog 24 #[.int .u64 ca] W fun e w' => e = .returned (.tuple #[.int .i64 (cellN ca), .bool (isRef ca)]) ∧ w' = W) := Lib.hid (fun W => Rd.Cell_any W ca i5.1 i5.2)
          have CB : Hid (∀ W, Calls Tryd.prog 24 #[.int .u64 cb] W fun e w' => e = .returned (.tuple #[.int .i64 (cellN cb), .bool (isRef cb)]) ∧ w' = W) := Lib.hid (fun W => Rd.Cell_any W cb i6.1 i6.2)
          have rga := cellN_range ca
          have rgb := cellN_range cb
          clear i5 i6 k0 HKC
          obtain ⟨l, hl⟩ : ∃ l, l = s.2.length := ⟨_, rfl⟩
          have HLI : Hid (j + 1 ≤ l ∧ l ≤ n) := Lib.hid (by omega)
          rw [← hl] at ltJ hle hlt HFR ⊢
          have HL := Lib.hid hl
          clear hfr hl
          cases ha : isRef ca
          · have hs1 : stO v s ca = s := by unfold stO; rw [ha]; rfl
            rw [hs1] at HNX
            rw [ha] at CA
            clear okA ha rga hs1
            cases hb : isRef cb
            · as_aux_lemma =>
              rw [hb] at CB
              clear okB rgb
              have C1 := CA.out wr
              have C2 := CB.out wr
              generalize cellN cb = xb at *
              generalize cellN ca = xa at *
              go_wp2_with fail
              refine C1.mono ?_
              rintro e w6 ⟨rfl, rfl⟩
              clear C1
              go_wp2_with fail
              refine C2.mono ?_
              rintro e w7 ⟨rfl, rfl⟩
              clear C2
              have RI1 := HRI2
              have HLS : Hid (s.2.length = l) := Lib.hid HL.out.symm
              have hs2 : stO v s cb = s := by unfold stO; rw [hb]; rfl
              rw [hs2] at HNX
              clear hs2
              go_wp2_with fail
              go_roundw
              case rel => exact ⟨j + 1, _, _, by go_num, by have := HLI.out; rw [HLS.out]; omega, HNX.out, RI1.out, HFR.out⟩
              case measure => have := HLI.out; simp [intOf]; omega
            · obtain ⟨d, hd⟩ : ∃ d : Nat, d = (cellN cb).toNat := ⟨_, rfl⟩
              have hdl : d < n := by rw [hd]; exact okB hb
              have hdv : cellN cb = (d : Int) := by omega
              have ltD : (d : Int) < n := by omega
              have HDL := Lib.hid hdl
              have HB := Lib.hid hb
              have HD := Lib.hid hd
              rw [hb, hdv] at CB
              clear okB rgb hdl hb hd hdv
              have C1 := CA.out wr
              have C2 := CB.out wr
              generalize cellN ca = xa at *
              go_wp2_with fail
              refine C1.mono ?_
              rintro e w6 ⟨rfl, rfl⟩
              clear C1
              go_wp2_with fail
              refine C2.mono ?_
              rintro e w7 ⟨rfl, rfl⟩
              clear C2
              have RI1 := HRI2
              have HLS : Hid (s.2.length = l) := Lib.hid HL.out.symm
              have hs2 : stO v s cb = stC v s d := by unfold stO; rw [HB.out, HD.out]; rfl
              rw [hs2] at HNX
              clear hs2
              have e1 := cell_at (i := d) HFR.out.out
              rw [List.getElem?_toArray, nv_at _ _ (by rw [RI1.out.len]; exact HDL.out)] at e1
              have g1 := free_at (i := d) HFR.out.out
              by_cases hz2 : s.1.getD d 0 = 0
              · as_aux_lemma =>
                rw [hz2] at e1
                have HZ2 := Lib.hid hz2
                have HR1 := Lib.hid (HFR.out.row2 d (.int .i64 (v : Int)) (.cells #[.int .i64 d] 3))
                rw [HLS.out] at HR1
                have HN1 := Lib.hid (newL (w := w7.setCell ⟨ob, d, none⟩ (.int .i64 (v : Int))) (b := w7.heap.size) (by simp [World.setCell]) [.int .i64 d] 3)
                obtain ⟨i0, hi, he⟩ := Option.map_eq_some_iff.1 infoInt
                simp only [Prod.mk.injEq] at he
                obtain ⟨hy0, hy1, hy2⟩ := he
                have hle2 := RI1.out.le
                rw [HLS.out] at hle2
                clear hz2
                go_wp2_with (at_builtin; go_loud (refine wpList_append_row _ rfl _ _ 59 rfl 3 i0 _ 1 8 Tryd.underlying59 hi hy0 hy1 hy2 rfl (by decide) rfl HR1.out ⟨w7.heap.size, 0, none⟩ 1 1 [.int .i64 d] rfl rfl HN1.out (one1 _ _) (by unfold maxLen; omega) (by omega) ?_))
                intro v9 w9 qs9 hr4 hc4 hq4
                have HF := Lib.hid (HFR.out.put HZ2.out (by rw [HLS.out]; exact hr4) hc4 hq4)
                obtain ⟨ao4, cap4, rfl, _⟩ := hr4.rd
                clear hr4 hc4 hq4
                go_wp2_with fail
                go_roundw
                case rel => exact ⟨j + 1, _, _, by go_num, by have := HLI.out; rw [stC_zero HZ2.out, HLS.out]; omega, HNX.out, RI1.out.step d HDL.out HVB.out.1 HVB.out.2, HF.out⟩
                case measure => have := HLI.out; simp [intOf]; omega
              · as_aux_lemma =>
                have e : stC v s d = s := stC_same hz2
                rw [e] at HNX
                generalize s.1.getD d 0 = y2 at *
                have hz' : ((y2 : Int) == 0) = false := by simp; omega
                clear hz2 e
                go_wp2_with fail
                go_roundw
                case rel => exact ⟨j + 1, _, _, by go_num, by have := HLI.out; rw [HLS.out]; omega, HNX.out, RI1.out, HFR.out⟩
                case measure => have := HLI.out; simp [intOf]; omega
          · obtain ⟨c, hc⟩ : ∃ c : Nat, c = (cellN ca).toNat := ⟨_, rfl⟩
            have hcl : c < n := by rw [hc]; exact okA ha
            have hcv : cellN ca = (c : Int) := by omega
            have hs1 : stO v s ca = stC v s c := by unfold stO; rw [ha, hc]; rfl
            rw [hs1] at HNX
            rw [ha, hcv] at CA
            have b1 := cell_at (i := c) HFR.out.out
            rw [List.getElem?_toArray, nv_at _ _ (by rw [HLEN.out]; exact hcl)] at b1
            have f1 := free_at (i := c) HFR.out.out
            have ltC : (c : Int) < n := by omega
            have HCL2 := Lib.hid hcl
            clear okA ha rga hs1 hc hcv hcl
            by_cases hz : s.1.getD c 0 = 0
            · rw [hz] at b1
              have HZ := Lib.hid hz
              have HR1 := Lib.hid (HFR.out.row2 c (.int .i64 (v : Int)) (.cells #[.int .i64 c] 3))
              rw [← HL.out] at HR1
              have HN1 := Lib.hid (newL (w := wr.setCell ⟨ob, c, none⟩ (.int .i64 (v : Int))) (b := wr.heap.size) (by simp [World.setCell]) [.int .i64 c] 3)
              obtain ⟨i0, hi, he⟩ := Option.map_eq_some_iff.1 infoInt
              simp only [Prod.mk.injEq] at he
              obtain ⟨hz0, hz1, hz2⟩ := he
              clear hz
              cases hb : isRef cb
              · as_aux_lemma =>
                rw [hb] at CB
                clear okB rgb
                have C1 := CA.out wr
                have C2 := CB.out wr
                generalize cellN cb = xb at *
                go_wp2_with fail
                refine C1.mono ?_
                rintro e w6 ⟨rfl, rfl⟩
                clear C1
                go_wp2_with fail
                refine C2.mono ?_
                rintro e w7 ⟨rfl, rfl⟩
                clear C2
                go_wp2_with (at_builtin; go_loud (refine wpList_append_row _ rfl _ _ 59 rfl 3 i0 _ 1 8 Tryd.underlying59 hi hz0 hz1 hz2 rfl (by decide) rfl HR1.out ⟨w7.heap.size, 0, none⟩ 1 1 [.int .i64 c] rfl rfl HN1.out (one1 _ _) (by unfold maxLen; omega) (by omega) ?_))
                intro v' w8 qs1 hr4 hc4 hq4
                have HF1 := Lib.hid (HFR.out.put HZ.out (by rw [← HL.out]; exact hr4) hc4 hq4)
                have RI1 := Lib.hid (HRI2.out.step c HCL2.out HVB.out.1 HVB.out.2)
                obtain ⟨ao4, cap4, rfl, _, _, r4⟩ := hr4.rd
                rw [Nat.mul_one] at r4
                have HLS : Hid ((stC v s c).2.length = l + 1) := Lib.hid (by unfold stC; rw [if_pos HZ.out]; simp [HL.out])
                have hpre : (stC v s c).2[j]? = some r := stC_pre HRR.out
                have e2 : (stC v s c).2 = s.2 ++ [c] := by unfold stC; rw [if_pos HZ.out]
                obtain ⟨b4, o4, rfl, hx4⟩ := r4.2.resolve_left (by omega)
                have q1 := hx4 j (by omega)
                rw [show (nv s.2 ++ [Value.int .i64 (c : Int)]) = nv (stC v s c).2 by rw [e2, nv_snoc], show (nv (stC v s c).2)[j]? = some (.int .i64 r) by (have hj9 : j < (stC v s c).2.length := by have := HLI.out; rw [HLS.out]; omega); rw [nv_at _ _ hj9, List.getD_eq_getElem?_getD, hpre]; rfl] at q1
                have q2 := cell_at (i := r) HF1.out.out
                rw [List.getElem?_toArray, nv_at _ _ (by rw [RI1.out.len]; exact HRL.out), stC_keep (by have := HV1.out; have := HVE.out; omega), ← HVE.out] at q2
                clear hr4 hc4 hq4 r4 hx4 e2 hpre b1 f1 HR1 HN1 hi hz0 hz1 hz2 a1 a2 i0
                have hs2 : stO v (stC v s c) cb = (stC v s c) := by unfold stO; rw [hb]; rfl
                rw [hs2] at HNX
                clear hs2
                go_wp2_with fail
                go_roundw
                case rel => exact ⟨j + 1, _, _, by go_num, by have := HLI.out; rw [HLS.out]; omega, HNX.out, RI1.out, HF1.out⟩
                case measure => have := HLI.out; simp [intOf]; omega
              · obtain ⟨d, hd⟩ : ∃ d : Nat, d = (cellN cb).toNat := ⟨_, rfl⟩
                have hdl : d < n := by rw [hd]; exact okB hb
                have hdv : cellN cb = (d : Int) := by omega
                have ltD : (d : Int) < n := by omega
                have HDL := Lib.hid hdl
                have HB := Lib.hid hb
                have HD := Lib.hid hd
                rw [hb, hdv] at CB
                clear okB rgb hdl hb hd hdv
                have C1 := CA.out wr
                have C2 := CB.out wr
                go_wp2_with fail
                refine C1.mono ?_
                rintro e w6 ⟨rfl, rfl⟩
                clear C1
                go_wp2_with fail
                refine C2.mono ?_
                rintro e w7 ⟨rfl, rfl⟩
                clear C2
                go_wp2_with (at_builtin; go_loud (refine wpList_append_row _ rfl _ _ 59 rfl 3 i0 _ 1 8 Tryd.underlying59 hi hz0 hz1 hz2 rfl (by decide) rfl HR1.out ⟨w7.heap.size, 0, none⟩ 1 1 [.int .i64 c] rfl rfl HN1.out (one1 _ _) (by unfold maxLen; omega) (by omega) ?_))
                intro v' w8 qs1 hr4 hc4 hq4
                have HF1 := Lib.hid (HFR.out.put HZ.out (by rw [← HL.out]; exact hr4) hc4 hq4)
                have RI1 := Lib.hid (HRI2.out.step c HCL2.out HVB.out.1 HVB.out.2)
                obtain ⟨ao4, cap4, rfl, _, _, r4⟩ := hr4.rd
                rw [Nat.mul_one] at r4
                have HLS : Hid ((stC v s c).2.length = l + 1) := Lib.hid (by unfold stC; rw [if_pos HZ.out]; simp [HL.out])
                have hpre : (stC v s c).2[j]? = some r := stC_pre HRR.out
                have e2 : (stC v s c).2 = s.2 ++ [c] := by unfold stC; rw [if_pos HZ.out]
                obtain ⟨b4, o4, rfl, hx4⟩ := r4.2.resolve_left (by omega)
                have q1 := hx4 j (by omega)
                rw [show (nv s.2 ++ [Value.int .i64 (c : Int)]) = nv (stC v s c).2 by rw [e2, nv_snoc], show (nv (stC v s c).2)[j]? = some (.int .i64 r) by (have hj9 : j < (stC v s c).2.length := by have := HLI.out; rw [HLS.out]; omega); rw [nv_at _ _ hj9, List.getD_eq_getElem?_getD, hpre]; rfl] at q1
                have q2 := cell_at (i := r) HF1.out.out
                rw [List.getElem?_toArray, nv_at _ _ (by rw [RI1.out.len]; exact HRL.out), stC_keep (by have := HV1.out; have := HVE.out; omega), ← HVE.out] at q2
                clear hr4 hc4 hq4 r4 hx4 e2 hpre b1 f1 HR1 HN1 hi hz0 hz1 hz2 a1 a2 i0
                have hs2 : stO v (stC v s c) cb = stC v (stC v s c) d := by unfold stO; rw [HB.out, HD.out]; rfl
                rw [hs2] at HNX
                clear hs2
                have e1 := cell_at (i := d) HF1.out.out
                rw [List.getElem?_toArray, nv_at _ _ (by rw [RI1.out.len]; exact HDL.out)] at e1
                have g1 := free_at (i := d) HF1.out.out
                by_cases hz2 : (stC v s c).1.getD d 0 = 0
                · as_aux_lemma =>
                  rw [hz2] at e1
                  have HZ2 := Lib.hid hz2
                  have HR1 := Lib.hid (HF1.out.row2 d (.int .i64 (v : Int)) (.cells #[.int .i64 d] 3))
                  rw [HLS.out] at HR1
                  have HN1 := Lib.hid (newL (w := w8.setCell ⟨ob, d, none⟩ (.int .i64 (v : Int))) (b := w8.heap.size) (by simp [World.setCell]) [.int .i64 d] 3)
                  obtain ⟨i0, hi, he⟩ := Option.map_eq_some_iff.1 infoInt
                  simp only [Prod.mk.injEq] at he
                  obtain ⟨hy0, hy1, hy2⟩ := he
                  have hle2 := RI1.out.le
                  rw [HLS.out] at hle2
                  clear hz2
                  go_wp2_with (at_builtin; go_loud (refine wpList_append_row _ rfl _ _ 59 rfl 3 i0 _ 1 8 Tryd.underlying59 hi hy0 hy1 hy2 rfl (by decide) rfl HR1.out ⟨w8.heap.size, 0, none⟩ 1 1 [.int .i64 d] rfl rfl HN1.out (one1 _ _) (by unfold maxLen; omega) (by omega) ?_))
                  intro v9 w9 qs9 hr4 hc4 hq4
                  have HF := Lib.hid (HF1.out.put HZ2.out (by rw [HLS.out]; exact hr4) hc4 hq4)
                  obtain ⟨ao4, cap4, rfl, _⟩ := hr4.rd
                  clear hr4 hc4 hq4
                  go_wp2_with fail
                  go_roundw
                  case rel => exact ⟨j + 1, _, _, by go_num, by have := HLI.out; rw [stC_zero HZ2.out, HLS.out]; omega, HNX.out, RI1.out.step d HDL.out HVB.out.1 HVB.out.2, HF.out⟩
                  case measure => have := HLI.out; simp [intOf]; omega
                · as_aux_lemma =>
                  have e : stC v (stC v s c) d = (stC v s c) := stC_same hz2
                  rw [e] at HNX
                  generalize (stC v s c).1.getD d 0 = y2 at *
                  have hz' : ((y2 : Int) == 0) = false := by simp; omega
                  clear hz2 e
                  go_wp2_with fail
                  go_roundw
                  case rel => exact ⟨j + 1, _, _, by go_num, by have := HLI.out; rw [HLS.out]; omega, HNX.out, RI1.out, HF1.out⟩
                  case measure => have := HLI.out; simp [intOf]; omega
            · have e : stC v s c = s := by unfold stC; rw [if_neg hz]
              rw [e] at HNX
              generalize s.1.getD c 0 = y at *
              have hz' : ((y : Int) == 0) = false := by simp; omega
              clear hz e
              cases hb : isRef cb
              · as_aux_lemma =>
                rw [hb] at CB
                clear okB rgb
                have C1 := CA.out wr
                have C2 := CB.out wr
                generalize cellN cb = xb at *
                go_wp2_with fail
                refine C1.mono ?_
                rintro e w6 ⟨rfl, rfl⟩
                clear C1
                go_wp2_with fail
                refine C2.mono ?_
                rintro e w7 ⟨rfl, rfl⟩
                clear C2
                have RI1 := HRI2
                have HLS : Hid (s.2.length = l) := Lib.hid HL.out.symm
                have hs2 : stO v s cb = s := by unfold stO; rw [hb]; rfl
                rw [hs2] at HNX
                clear hs2
                go_wp2_with fail
                go_roundw
                case rel => exact ⟨j + 1, _, _, by go_num, by have := HLI.out; rw [HLS.out]; omega, HNX.out, RI1.out, HFR.out⟩
                case measure => have := HLI.out; simp [intOf]; omega
              · obtain ⟨d, hd⟩ : ∃ d : Nat, d = (cellN cb).toNat := ⟨_, rfl⟩
                have hdl : d < n := by rw [hd]; exact okB hb
                have hdv : cellN cb = (d : Int) := by omega
                have ltD : (d : Int) < n := by omega
                have HDL := Lib.hid hdl
                have HB := Lib.hid hb
                have HD := Lib.hid hd
                rw [hb, hdv] at CB
                clear okB rgb hdl hb hd hdv
                have C1 := CA.out wr
                have C2 := CB.out wr
                go_wp2_with fail
                refine C1.mono ?_
                rintro e w6 ⟨rfl, rfl⟩
                clear C1
                go_wp2_with fail
                refine C2.mono ?_
                rintro e w7 ⟨rfl, rfl⟩
                clear C2
                have RI1 := HRI2
                have HLS : Hid (s.2.length = l) := Lib.hid HL.out.symm
                have hs2 : stO v s cb = stC v s d := by unfold stO; rw [HB.out, HD.out]; rfl
                rw [hs2] at HNX
                clear hs2
                have e1 := cell_at (i := d) HFR.out.out
                rw [List.getElem?_toArray, nv_at _ _ (by rw [RI1.out.len]; exact HDL.out)] at e1
                have g1 := free_at (i := d) HFR.out.out
                by_cases hz2 : s.1.getD d 0 = 0
                · as_aux_lemma =>
                  rw [hz2] at e1
                  have HZ2 := Lib.hid hz2
                  have HR1 := Lib.hid (HFR.out.row2 d (.int .i64 (v : Int)) (.cells #[.int .i64 d] 3))
                  rw [HLS.out] at HR1
                  have HN1 := Lib.hid (newL (w := w7.setCell ⟨ob, d, none⟩ (.int .i64 (v : Int))) (b := w7.heap.size) (by simp [World.setCell]) [.int .i64 d] 3)
                  obtain ⟨i0, hi, he⟩ := Option.map_eq_some_iff.1 infoInt
                  simp only [Prod.mk.injEq] at he
                  obtain ⟨hy0, hy1, hy2⟩ := he
                  have hle2 := RI1.out.le
                  rw [HLS.out] at hle2
                  clear hz2
                  go_wp2_with (at_builtin; go_loud (refine wpList_append_row _ rfl _ _ 59 rfl 3 i0 _ 1 8 Tryd.underlying59 hi hy0 hy1 hy2 rfl (by decide) rfl HR1.out ⟨w7.heap.size, 0, none⟩ 1 1 [.int .i64 d] rfl rfl HN1.out (one1 _ _) (by unfold maxLen; omega) (by omega) ?_))
                  intro v9 w9 qs9 hr4 hc4 hq4
                  have HF := Lib.hid (HFR.out.put HZ2.out (by rw [HLS.out]; exact hr4) hc4 hq4)
                  obtain ⟨ao4, cap4, rfl, _⟩ := hr4.rd
                  clear hr4 hc4 hq4
                  go_wp2_with fail
                  go_roundw
                  case rel => exact ⟨j + 1, _, _, by go_num, by have := HLI.out; rw [stC_zero HZ2.out, HLS.out]; omega, HNX.out, RI1.out.step d HDL.out HVB.out.1 HVB.out.2, HF.out⟩
                  case measure => have := HLI.out; simp [intOf]; omega
                · as_aux_lemma =>
                  have e : stC v s d = s := stC_same hz2
                  rw [e] at HNX
                  generalize s.1.getD d 0 = y2 at *
                  have hz' : ((y2 : Int) == 0) = false := by simp; omega
                  clear hz2 e
                  go_wp2_with fail
                  go_roundw
                  case rel => exact ⟨j + 1, _, _, by go_num, by have := HLI.out; rw [HLS.out]; omega, HNX.out, RI1.out, HFR.out⟩
                  case measure => have := HLI.out; simp [intOf]; omega
        · as_aux_lemma =>
          obtain rfl : j = s.2.length := by omega
          have he : s = allS h ws := by rw [← hst, stL_stop _ _ _ _ (Nat.le_refl _)]
          have Z : Hid (wr.heap[ob]? = some (.cells (nv (Rp.all h ws)).toArray 3 (0, 0)) ∧ Ch [] w wr) := Lib.hid ⟨by unfold Rp.all; rw [← he]; exact hfr.out, hfr.ch⟩
          clear hst hri hfr he n3 hlt hj
          generalize s.2.length = k at *
          have ltJ : ¬ (k : Int) < k := by omega
          go_wp2_with fail
          go_ret
          exact ⟨ob, rfl, Z.out⟩
end Go.Proofs.YtggijcebobjghaaDoor.Rp
