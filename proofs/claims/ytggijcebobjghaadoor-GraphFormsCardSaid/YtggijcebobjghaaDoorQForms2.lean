/-
  THE WALK of GraphForms.
-/
import Derived.Test.YtggijcebobjghaaDoorQForms
import Derived.Test.YtggijcebobjghaaDoorQLaw10n
import Derived.Test.YtggijcebobjghaaDoorQJLentC
import Derived.BigRegion
import Derived.Deep.RegionHeld3
set_option linter.unusedVariables false
set_option linter.unusedSimpArgs false
set_option maxRecDepth 100000
namespace Go.Proofs.YtggijcebobjghaaDoor.L10
open Go.RowKit Go.Proofs.YtggijcebobjghaaDoor.Wd Go.Proofs.YtggijcebobjghaaDoor.Hp Go.Proofs.YtggijcebobjghaaDoor.Gp Go.Proofs.YtggijcebobjghaaDoor.Sm Go.Proofs.YtggijcebobjghaaDoor.Gr Go.Proofs.YtggijcebobjghaaDoor.Pa Go.Proofs.YtggijcebobjghaaDoor.Fo
theorem run_make_cellsN (w : World) (n : Nat) (h : n ≤ 1000000) : (Instr.makeSlice 23 (.int .i64 (n : Int)) (.int .i64 (n : Int))).run Tryd.prog w = .ok (.slice (some ⟨w.heap.size, 0, none⟩) n n) (w.alloc (.cells (flat (List.replicate n z)).toArray 55)) := by
  obtain ⟨i, hi, he⟩ := Option.map_eq_some_iff.1 infoCell
  simp only [Prod.mk.injEq] at he
  obtain ⟨e1, e2, e3⟩ := he
  have := run_make (P := Tryd.prog) w 23 55 i _ Tryd.underlying23 hi e1 .i64 .i64 n n (by omega) (by omega) (by rw [e3]; omega) (by omega)
  rw [this, e2]
  have e4 : (Value.agg #[.int .u8 0, .int .u8 0, .int .u64 0, .int .u64 0]).cells = #[.int .u8 0, .int .u8 0, .int .u64 0, .int .u64 0] := rfl
  rw [e4, show (n : Int).toNat = n by omega, made_cells]
theorem rdF0 {w : World} {ao : Option Addr} {m : Nat} {xs : List Value} (h : Hp.Rd w ao m xs) : RdF w ao m xs [] := ⟨h.1, h.2.imp id fun ⟨b, off, e, hj⟩ => ⟨b, off, e, by simp, hj⟩⟩
def fillK (N : Nat) : Nat → List Nat
  | 0 => List.replicate N 0
  | k + 1 => (fillK N k).set k k
theorem fillK_len (N : Nat) : ∀ k, (fillK N k).length = N
  | 0 => by simp [fillK]
  | k + 1 => by simp [fillK, fillK_len N k]
theorem fillK_at (N : Nat) : ∀ k, k ≤ N → ∀ i, i < k → (fillK N k)[i]? = some i
  | 0, _, i, hi => absurd hi (by omega)
  | k + 1, hk, i, hi => by
    rw [fillK, List.getElem?_set]
    by_cases e : k = i
    · subst e; rw [if_pos rfl, if_pos (by rw [fillK_len]; omega)]
    · rw [if_neg e]; exact fillK_at N k (by omega) i (by omega)
theorem fillK_all (N : Nat) : fillK N N = List.range N := by
  apply List.ext_getElem?
  intro i
  by_cases h : i < N
  · rw [fillK_at N N (Nat.le_refl _) i h]; simp [h]
  · rw [List.getElem?_eq_none (by rw [fillK_len]; omega), List.getElem?_eq_none (by simp; omega)]
theorem formC_in {h : List Cel} (hh : ∀ x ∈ h, InR x) (pl : List Nat) (c : Nat) (hc : c < h.length) : InR (formC h pl c) := by
  obtain ⟨i1, i2, i3, i4, i5, i6⟩ := InR.at hh c hc
  unfold formC
  split
  · unfold InR Gp.u64; simp
  · exact ⟨i1, i2, show (0 : Int) ≤ 0 by omega, show (0 : Int) < 256 by omega, moved_u i5, moved_u i6⟩
theorem formH_in {h : List Cel} {ws : List Int} (hm : may h ws = true) (hh : ∀ x ∈ h, InR x) : ∀ x ∈ formH h ws, InR x := by
  intro x hx
  unfold formH at hx
  rw [if_pos hm, List.mem_map] at hx
  obtain ⟨c, hc, rfl⟩ := hx
  exact formC_in hh _ c (((order_inv hm).mem c).1 hc).1
theorem formW_in {h : List Cel} {ws : List Int} (hm : may h ws = true) (hu : ∀ v ∈ ws, Gp.u64 v) : ∀ v ∈ formW h ws, Gp.u64 v := by
  intro v hv
  unfold formW at hv
  rw [if_pos hm, List.mem_map] at hv
  obtain ⟨u, hu2, rfl⟩ := hv
  exact moved_u (hu u hu2)
theorem flat_set (l : List Cel) (y : Nat) (c : Cel) (hy : y < l.length) : ((((flat l).toArray.setIfInBounds (y * 4) (.int .u8 c.k)).setIfInBounds (y * 4 + 1) (.int .u8 c.c)).setIfInBounds (y * 4 + 2) (.int .u64 c.a)).setIfInBounds (y * 4 + 3) (.int .u64 c.b) = (flat (l.set y c)).toArray := by
  apply Array.ext_getElem?
  intro m
  have hl := flat_len l
  have hl2 := flat_len (l.set y c)
  rw [List.length_set] at hl2
  by_cases hm : m < l.length * 4
  · have e : m = m / 4 * 4 + m % 4 := by omega
    have h4 : m % 4 < 4 := Nat.mod_lt _ (by omega)
    have hi : m / 4 < l.length := by omega
    have g1 := flat_get l (m / 4) (m % 4) hi h4
    have g2 := flat_get (l.set y c) (m / 4) (m % 4) (by simpa using hi) h4
    rw [← e] at g1 g2
    rw [show (flat (l.set y c)).toArray[m]? = (flat (l.set y c))[m]? by simp, g2, set_atz _ _ _ _ hy]
    simp only [Array.getElem?_setIfInBounds, Array.size_setIfInBounds, List.size_toArray, List.getElem?_toArray, g1]
    by_cases e2 : m / 4 = y
    · rw [if_pos e2]
      rcases (show m % 4 = 0 ∨ m % 4 = 1 ∨ m % 4 = 2 ∨ m % 4 = 3 by omega) with r | r | r | r
      · rw [if_neg (by omega), if_neg (by omega), if_neg (by omega), if_pos (by omega), if_pos (by omega), r]; rfl
      · rw [if_neg (by omega), if_neg (by omega), if_pos (by omega), if_pos (by omega), r]; rfl
      · rw [if_neg (by omega), if_pos (by omega), if_pos (by omega), r]; rfl
      · rw [if_pos (by omega), if_pos (by omega), r]; rfl
    · rw [if_neg e2, if_neg (by omega), if_neg (by omega), if_neg (by omega), if_neg (by omega)]
  · rw [Array.getElem?_eq_none (by simp; omega), Array.getElem?_eq_none (by simp; omega)]
def mvL (to : List Nat) (ws : List Int) (j : Nat) : List Value := ints .u64 ((ws.take j).map (mvT to))
theorem mvL_snoc (to : List Nat) (ws : List Int) (j : Nat) (hj : j < ws.length) : mvL to ws (j + 1) = mvL to ws j ++ [.int .u64 (mvT to (ws.getD j 0))] := by
  unfold mvL
  rw [take_snoc ws j 0 hj, List.map_append]
  simp [ints]
/-- A cell's first word written over. -/
theorem turn_at {arr : Array Value} {off c : Nat} {h : List Cel} {x : Int} (hc : c < h.length) (hs : off + h.length * 4 ≤ arr.size) (ha : ∀ j, j < h.length * 4 → arr[off + j]? = (flat h)[j]?) :
    ∀ j, j < h.length * 4 → (arr.setIfInBounds (off + c * 4 + 2) (.int .u64 x))[off + j]? = (flat (h.set c { h.getD c z with a := x }))[j]? := by
  intro j hj
  have e : j = j / 4 * 4 + j % 4 := by omega
  have h4 : j % 4 < 4 := Nat.mod_lt _ (by omega)
  have hi : j / 4 < h.length := by omega
  have g1 := flat_get h (j / 4) (j % 4) hi h4
  have g2 := flat_get (h.set c { h.getD c z with a := x }) (j / 4) (j % 4) (by simpa using hi) h4
  rw [← e] at g1 g2
  rw [g2, set_atz _ _ _ _ hc, Array.getElem?_setIfInBounds]
  by_cases e2 : j / 4 = c
  · rw [if_pos e2]
    by_cases e3 : j % 4 = 2
    · rw [if_pos (by omega), if_pos (by omega), e3]; rfl
    · rw [if_neg (by omega), ha j hj, g1, e2]
      rcases (show j % 4 = 0 ∨ j % 4 = 1 ∨ j % 4 = 3 by omega) with r | r | r <;> rw [r] <;> rfl
  · rw [if_neg e2, if_neg (by omega), ha j hj, g1]
set_option maxHeartbeats 8000000 in
theorem GraphForms_any (w : World) (ao aw aq : Option Addr) (cap cw cq : Nat) (h : List Cel) (ws os : List Int) (at_ : Int) (hr : RdF w ao (h.length * 4) (flat h) []) (hrw : RdF w aw ws.length (ints .u64 ws) []) (hro : RdF w aq os.length (ints .i64 os) []) (hh : ∀ x ∈ h, InR x) (hu : ∀ v ∈ ws, Gp.u64 v) (hov : ∀ v ∈ os, -9223372036854775808 ≤ v ∧ v ≤ 9223372036854775807) (hat : -9223372036854775808 ≤ at_ ∧ at_ ≤ 9223372036854775807) (hb : Bnd w) :
    Calls Tryd.prog 7 #[.agg #[.slice ao h.length cap, .slice aw ws.length cw, .slice aq os.length cq, .int .i64 at_]] w fun e w' => e = .returned (.bool true) ∧ Ch [] w w' := by
  by_cases hbig : 2000 < h.length
  · have hbI : (2000 : Int) < (h.length : Int) := by omega
    clear hr hrw hro hh hu hov hat hb hbig
    generalize h.length = n at *
    generalize ws.length = m at *
    generalize os.length = no at *
    go_enter Tryd.func7, Tryd.ntmps7
    go_wp2_with fail
    go_ret
    exact ⟨rfl, (Ch.refl _ _).alloc _⟩
  have hbI : ¬ (2000 : Int) < (h.length : Int) := by omega
  have hn2 : h.length ≤ 2000 := by omega
  by_cases hbig2 : 1000 < ws.length
  · have hbI2 : (1000 : Int) < (ws.length : Int) := by omega
    clear hr hrw hro hh hu hov hat hb hbig hbig2
    generalize h.length = n at *
    generalize ws.length = m at *
    generalize os.length = no at *
    go_enter Tryd.func7, Tryd.ntmps7
    go_wp2_with fail
    go_ret
    exact ⟨rfl, (Ch.refl _ _).alloc _⟩
  have hbI2 : ¬ (1000 : Int) < (ws.length : Int) := by omega
  have hm2 : ws.length ≤ 1000 := by omega
  by_cases hbig3 : 4000 < os.length
  · have hbI3 : (4000 : Int) < (os.length : Int) := by omega
    clear hr hrw hro hh hu hov hat hb hbig hbig2 hbig3
    generalize h.length = n at *
    generalize ws.length = m at *
    generalize os.length = no at *
    go_enter Tryd.func7, Tryd.ntmps7
    go_wp2_with fail
    go_ret
    exact ⟨rfl, (Ch.refl _ _).alloc _⟩
  have hbI3 : ¬ (4000 : Int) < (os.length : Int) := by omega
  have ho2 : os.length ≤ 4000 := by omega
  clear hbig hbig2 hbig3
  have C1 : Hid (Ch [] w (w.alloc (.cells #[.slice ao h.length cap, .slice aw ws.length cw, .slice aq os.length cq, .int .i64 at_] 77))) := Lib.hid ((Ch.refl _ _).alloc _)
  have HG := Lib.hid (cell_at (i := 3) (heap_new w (.cells #[.slice ao h.length cap, .slice aw ws.length cw, .slice aq os.length cq, .int .i64 at_] 77)))
  have HR := Lib.hid (hr.ch (T' := []) C1.out (by simp))
  have HRW := Lib.hid (hrw.ch (T' := []) C1.out (by simp))
  have HRO := Lib.hid (hro.ch (T' := []) C1.out (by simp))
  have HB := Lib.hid (Bnd.ch hb C1.out (by simp))
  have HH := Lib.hid hh
  have HU := Lib.hid hu
  have HOV := Lib.hid hov
  have HAT := Lib.hid hat
  clear hr hrw hro hh hu hov hat hb
  obtain ⟨n, hnl⟩ : ∃ n, n = h.length := ⟨_, rfl⟩
  obtain ⟨m, hml⟩ : ∃ m, m = ws.length := ⟨_, rfl⟩
  obtain ⟨no, hol⟩ : ∃ no, no = os.length := ⟨_, rfl⟩
  have HN := Lib.hid hnl
  have HM := Lib.hid hml
  have HO := Lib.hid hol
  rw [← hnl] at hn2 hbI HR C1 HG HB HRW HRO ⊢
  rw [← hml] at hm2 hbI2 HR C1 HG HB HRW HRO ⊢
  rw [← hol] at ho2 hbI3 HR C1 HG HB HRW HRO ⊢
  clear hnl hml hol
  have K := known_any _ HB.out
  go_enter Tryd.func7, Tryd.ntmps7
  go_wp2_with fail
  obtain ⟨w1, hw1⟩ : ∃ w1, w1 = w.alloc (.cells #[.slice ao n cap, .slice aw m cw, .slice aq no cq, .int .i64 at_] 77) := ⟨_, rfl⟩
  rw [← hw1] at HR HRW HRO HB K C1 HG ⊢
  obtain ⟨gb, hgb⟩ : ∃ gb, gb = w.heap.size := ⟨_, rfl⟩
  rw [← hgb] at HG ⊢
  clear hw1 hgb
  refine K.mono ?_
  rintro e w2 ⟨rfl, c2⟩
  have A := Form_any (ao := ao) (cap := cap) (h := h) (aw := aw) (cw := cw) (ws := ws) (m := m) (w := w2) (by rw [← HN.out]; omega) (by omega) (by rw [← HN.out]; exact HR.out.ch c2 (by simp)) (HRW.out.ch c2 (by simp)) HH.out HU.out (Bnd.ch HB.out c2 (by simp))
  rw [← HN.out] at A
  have C2 := Lib.hid c2
  unfold FormPost at A
  clear K c2
  cases hmay : may h ws
  · as_aux_lemma =>
    have e1 : gErr h ws = 100 := by unfold gErr; simp [hmay]
    have e2 : formH h ws = [] := by unfold formH; simp [hmay]
    have e3 : formW h ws = [] := by unfold formW; simp [hmay]
    rw [e1, e2, e3] at A
    clear e1 e2 e3 hmay
    simp only [List.length_nil] at A
    go_wp2_with fail
    refine A.mono ?_
    rintro e w3 ⟨v1, q1, v2, q2, rfl, g1, g2, g3, _⟩
    obtain ⟨a1, c1, rfl, _⟩ := g1.rd
    obtain ⟨a2, c2, rfl, _⟩ := g2.rd
    have H3 := Lib.hid (C1.out.trans' (C2.out.trans' g3))
    clear A g1 g2 g3
    go_wp2_with fail
    go_ret
    exact ⟨rfl, H3.out⟩
  have HMAY := Lib.hid hmay
  have e1 : gErr h ws = 0 := by unfold gErr; rw [if_pos hmay]
  have hXi := formH_in hmay HH.out
  have hYi := formW_in hmay HU.out
  have hfl : (formH h ws).length ≤ n := by rw [formH_len hmay, HN.out]; exact (order_inv hmay).le
  have hwl : (formW h ws).length = m := by unfold formW; rw [if_pos hmay, HM.out]; simp
  obtain ⟨f1, f2, f3⟩ := form_form hmay (by rw [← HN.out]; omega)
  rw [e1] at A
  generalize hXE : formH h ws = X at *
  generalize hYE : formW h ws = Y at *
  have HXE := Lib.hid hXE
  have HYE := Lib.hid hYE
  clear hXE hYE
  obtain ⟨n1, hn1⟩ : ∃ n1, n1 = X.length := ⟨_, rfl⟩
  rw [← hn1] at A hfl
  rw [hwl] at A
  have HN1 := Lib.hid hn1
  have HW1 := Lib.hid hwl
  have HXI := Lib.hid hXi
  have HYI := Lib.hid hYi
  have HF1 := Lib.hid f1
  have HF2 := Lib.hid f2
  have HF3 := Lib.hid f3
  clear e1 hmay hXi hYi hn1 hwl f1 f2 f3
  go_wp2_with fail
  refine A.mono ?_
  rintro e w3 ⟨v1, q1, v2, q2, rfl, g1, g2, g3, _⟩
  obtain ⟨ax, cx, rfl, x1, x2, x3⟩ := g1.rd
  obtain ⟨ay, cy, rfl, y1, y2, y3⟩ := g2.rd
  rw [Nat.mul_one] at y3
  have C3 := Lib.hid (C2.out.trans' g3)
  have HX := Lib.hid x3
  have HY := Lib.hid y3
  have HYC := Lib.hid (And.intro y1 y2)
  clear A g1 g2 g3 x1 x2 x3 y1 y2 y3 C2
  have HSC : Hid (∀ (W : World) (a1 : Option Addr) (c1 : Nat), Ch [] w3 W → Hp.Rd W a1 (n1 * 4) (flat X) → Calls Tryd.prog 27 #[.slice a1 n1 c1, .slice ax n1 cx] W fun e w' => e = .returned (.bool true) ∧ ∃ d, w' = W.drewN d) := Lib.hid (fun W a1 c1 c hx => by
    have := SameCells_any W a1 ax n1 c1 n1 cx X X (by omega) (by omega) HN1.out.symm HN1.out.symm hx (HX.out.ch c)
    rwa [show decide (X = X) = true by simp] at this)
  have HSW : Hid (∀ (W : World) (a1 : Option Addr) (c1 : Nat), Ch [] w3 W → m ≤ c1 → c1 ≤ maxLen → Hp.Rd W a1 m (ints .u64 Y) → Calls Tryd.prog 28 #[.slice a1 m c1, .slice ay m cy] W fun e w' => e = .returned (.bool true) ∧ ∃ d, w' = W.drewN d) := Lib.hid (fun W a1 c1 c h1 h2 hx => by
    have := SameWords_any W a1 ay m c1 m cy Y Y h1 h2 HYC.out.1 HYC.out.2 hx (HY.out.ch c)
    rwa [show decide (Y = Y) = true by simp] at this)
  have HFX := Lib.hid (fun (W : World) (c : Ch [] w3 W) => Form_any (ao := ax) (cap := cx) (h := X) (aw := ay) (cw := cy) (ws := Y) (m := m) (w := W) (by rw [← HN1.out]; omega) (by omega) (by rw [← HN1.out]; exact rdF0 (HX.out.ch c)) (rdF0 (HY.out.ch c)) HXI.out HYI.out (Bnd.ch HB.out (C3.out.trans' c) (by simp)))
  unfold FormPost at HFX
  have e1 : gErr X Y = 0 := by unfold gErr; rw [if_pos HF1.out]
  rw [e1, HF2.out, HF3.out, ← HN1.out, HW1.out] at HFX
  have A := HFX.out w3 (Ch.refl _ _)
  clear e1 HF1 HF2 HF3 HXI HYI HFX
  go_wp2_with fail
  refine A.mono ?_
  rintro e w4 ⟨v1, q1, v2, q2, rfl, g1, g2, g3, _⟩
  obtain ⟨au, cu, rfl, x1, x2, x3⟩ := g1.rd
  obtain ⟨av, cv, rfl, y1, y2, y3⟩ := g2.rd
  rw [Nat.mul_one] at y3
  have C4 := Lib.hid g3
  have A := HSC.out w4 au cu g3 x3
  have HY4 := Lib.hid y3
  have HYC4 := Lib.hid (And.intro y1 y2)
  clear g1 g2 g3 x1 x2 x3 y1 y2 y3
  go_wp2_with fail
  refine A.mono ?_
  rintro e wd ⟨rfl, d, rfl⟩
  have CD := Lib.hid ((Ch.refl [] w4).drewN d)
  generalize w4.drewN d = wd at *
  have A := HSW.out wd av cv (C4.out.trans' CD.out) HYC4.out.1 HYC4.out.2 (HY4.out.ch CD.out)
  go_wp2_with fail
  refine A.mono ?_
  rintro e we ⟨rfl, d, rfl⟩
  have C5 := Lib.hid ((C4.out.trans' CD.out).drewN d)
  generalize wd.drewN d = w5 at *
  clear A CD C4 HY4 HYC4
  obtain ⟨N, hNN⟩ : ∃ N, N = n + 1 := ⟨_, rfl⟩
  have hNI : (n : Int) + 1 = (N : Int) := by omega
  have hN2 : N ≤ 2001 := by omega
  have HNN := Lib.hid hNN
  have hmk := run_make_ints w5 N (by omega)
  have T0 : Hid ((w5.alloc (.cells (nv (List.replicate N 0)).toArray 3)).heap[w5.heap.size]? = some (.cells (nv (fillK N 0)).toArray 3 (0, 0))) := Lib.hid (heap_new _ _)
  have CT : Hid (Ch [] w5 (w5.alloc (.cells (nv (List.replicate N 0)).toArray 3))) := Lib.hid ((Ch.refl _ _).alloc _)
  obtain ⟨tb, htb⟩ : ∃ tb, tb = w5.heap.size := ⟨_, rfl⟩
  rw [← htb] at hmk T0
  have HTB := Lib.hid htb
  clear hNN htb
  go_wp2_with fail
  clear hmk
  generalize w5.alloc (.cells (nv (List.replicate N 0)).toArray 3) = w6 at *
  go_loopw [16] (fun i wr => ∃ (j : Nat), i = .int .i64 j ∧ j ≤ N ∧ wr.heap[tb]? = some (.cells (nv (fillK N j)).toArray 3 (0, 0)) ∧ Ch [] w5 wr) (fun i _ => N - (intOf i).toNat)
  case atStart => exact ⟨0, rfl, by omega, T0.out, CT.out⟩
  case round =>
    obtain ⟨j, rfl, hj, htt, hc⟩ := hrel
    by_cases hlt : j < N
    · as_aux_lemma =>
      have ltI : (j : Int) < N := by omega
      have m1 := cell_at (i := j) htt
      rw [List.getElem?_toArray, nv_at _ _ (by rw [fillK_len]; exact hlt)] at m1
      have f1 := free_at (i := j) htt
      have hmw := HTB.out
      have HCS := Lib.hid (Ch.setCell hc ⟨tb, j, none⟩ (.int .i64 j) (.inr (by show w5.heap.size ≤ tb; omega)))
      have HTS : Hid ((wr.setCell ⟨tb, j, none⟩ (.int .i64 j)).heap[tb]? = some (.cells (nv (fillK N (j + 1))).toArray 3 (0, 0))) := Lib.hid (by rw [fillK, ← nv_set]; exact heap_set htt _)
      clear htt hc hmw
      generalize (fillK N j).getD j 0 = y at *
      go_wp2_with fail
      go_roundw
      case rel => exact ⟨j + 1, by go_num, by omega, HTS.out, HCS.out⟩
      case measure => simp [intOf]; omega
    · obtain rfl : N = j := by omega
      have ltI : ¬ (N : Int) < N := by omega
      rw [fillK_all] at htt
      have T1 := Lib.hid (show wr.heap[tb]? = some (.cells (nv (toK os N 0)).toArray 3 (0, 0)) from htt)
      have CT1 := Lib.hid hc
      clear T0 CT htt hc
      have hmw := HTB.out
      clear HTB
      have HTB : Hid (w5.heap.size ≤ tb ∧ ∀ k, (toK os N k).length = N ∧ ∀ i, i < N → (toK os N k).getD i 0 < N) := Lib.hid ⟨by have := hmw; omega, fun k => ⟨(Num.of (toK_perm os N (by omega) k)).len, (Num.of (toK_perm os N (by omega) k)).lt⟩⟩
      clear hmw
      have HPK : Hid (∀ (W : World) (c : Int), (-9223372036854775808 ≤ c ∧ c ≤ 9223372036854775807) → Calls Tryd.prog 29 #[.int .i64 c, .int .i64 N] W fun e w' => e = .returned (.int .i64 (pickN c N : Nat)) ∧ w' = W) := Lib.hid (fun W c hc => pick_any W c N hc.1 hc.2 (by omega) (by omega))
      go_wp2_with fail
      go_loopw [17] (fun i wr => ∃ (j : Nat), i = .int .i64 j ∧ (j = 0 ∨ j < no) ∧ wr.heap[tb]? = some (.cells (nv (toK os N j)).toArray 3 (0, 0)) ∧ Ch [] w5 wr) (fun i _ => no - (intOf i).toNat)
      case atStart => exact ⟨0, rfl, .inl rfl, T1.out, CT1.out⟩
      case round =>
        obtain ⟨j, rfl, hj, htt, hc⟩ := hrel
        obtain ⟨j1, hj1⟩ : ∃ j1, j1 = j + 1 := ⟨_, rfl⟩
        have hjI : (j : Int) + 1 = (j1 : Int) := by omega
        by_cases hlt : j1 < no
        · as_aux_lemma =>
          have ltI : (j1 : Int) < no := by omega
          obtain ⟨bq, oq, rfl, _, hqj⟩ := (HRO.out.ch (C3.out.trans' (C5.out.trans' hc)) (T' := []) (by simp)).2.resolve_left (by omega)
          have hq1 : j < os.length := by rw [← HO.out]; omega
          have hq2 : j1 < os.length := by rw [← HO.out]; omega
          have q1 := hqj j (by omega)
          have q2 := hqj j1 (by omega)
          rw [show (ints .i64 os)[j]? = some (.int .i64 (os.getD j 0)) by simp [ints, hq1]] at q1
          rw [show (ints .i64 os)[j1]? = some (.int .i64 (os.getD j1 0)) by simp [ints, hq2]] at q2
          have v1 := HOV.out (os.getD j 0) (by simp [List.getD_eq_getElem?_getD, hq1])
          have v2 := HOV.out (os.getD j1 0) (by simp [List.getD_eq_getElem?_getD, hq2])
          have HT : Hid (toK os N j1 = swapL (toK os N j) (pickN (os.getD j 0) N) (pickN (os.getD j1 0) N)) := Lib.hid (by rw [hj1]; rfl)
          have P1 := HPK.out wr _ v1
          have P2 := HPK.out wr _ v2
          have la := (pick_cast (os.getD j 0) N (by omega)).2
          have lb := (pick_cast (os.getD j1 0) N (by omega)).2
          generalize os.getD j 0 = x1 at *
          generalize os.getD j1 0 = x2 at *
          generalize pickN x1 N = a at *
          generalize pickN x2 N = b at *
          obtain ⟨t1, t2⟩ := HTB.out
          obtain ⟨t3, t4⟩ := t2 j
          have m1 := cell_at (i := a) htt
          rw [List.getElem?_toArray, nv_at _ _ (by omega)] at m1
          have m2 := cell_at (i := b) htt
          rw [List.getElem?_toArray, nv_at _ _ (by omega)] at m2
          have f1 := free_at (i := a) htt
          have f2 := free_at (i := b) htt
          have hs := heap_set (i := a) htt (.int .i64 ((toK os N j).getD b 0))
          have f3 := free_at (i := b) hs
          have m3 := cell_at (i := b) hs
          rw [nv_set, List.getElem?_toArray, nv_at _ _ (by simp; omega)] at m3
          generalize ((toK os N j).set a ((toK os N j).getD b 0)).getD b 0 = yc at *
          clear hs
          have HTT := Lib.hid htt
          have HC := Lib.hid hc
          have HLT := Lib.hid (And.intro t1 hlt)
          have HTA : Hid (toK os N j1 = ((toK os N j).set a ((toK os N j).getD b 0)).set b ((toK os N j).getD a 0)) := Lib.hid HT.out
          generalize (toK os N j).getD a 0 = ya at *
          generalize (toK os N j).getD b 0 = yb at *
          have laI : (a : Int) < N := by omega
          have lbI : (b : Int) < N := by omega
          have HJ := Lib.hid hj1
          clear hqj htt hc hj hj1 hq1 hq2 t1 t2 t3 t4 v1 v2 HT la lb hlt
          go_wp2_with fail
          refine P1.mono ?_
          rintro e w7 ⟨rfl, rfl⟩
          go_wp2_with fail
          refine P2.mono ?_
          rintro e w7 ⟨rfl, rfl⟩
          clear P1 P2
          go_wp2_with fail
          go_region
          all_goals
            go_wp2_with fail
            go_roundw
            case rel =>
              refine ⟨j1, rfl, .inr HLT.out.2, ?_, ((HC.out.setCell _ _ (.inr HLT.out.1)).setCell _ _ (.inr HLT.out.1)).drew⟩
              have := heap_set (i := b) (heap_set (i := a) HTT.out (.int .i64 yb)) (.int .i64 ya)
              rw [nv_set, nv_set] at this
              rw [HTA.out]
              exact this
            case measure =>
              have h1 := HJ.out
              have h2 := HLT.out.2
              simp [intOf]; omega
        · have ltI : ¬ (j1 : Int) < no := by omega
          have hnum := Num.of (toK_perm os N (by omega) j)
          generalize toK os N j = to at *
          have HNU := Lib.hid hnum
          have htbl := HTB.out.1
          have HTL := Lib.hid htbl
          have T2 := Lib.hid htt
          have CT2 := Lib.hid hc
          clear T1 CT1 HTB hc hlt HPK hj1 htbl
          have hmk := run_make_cellsN wr N (by omega)
          have O0 : Hid ((wr.alloc (.cells (flat (List.replicate N z)).toArray 55)).heap[wr.heap.size]? = some (.cells (flat (othK h to N 0)).toArray 55 (0, 0))) := Lib.hid (heap_new _ _)
          have CO : Hid (Ch [] wr (wr.alloc (.cells (flat (List.replicate N z)).toArray 55))) := Lib.hid ((Ch.refl _ _).alloc _)
          have hob := lt_of htt
          obtain ⟨ob, hobE⟩ : ∃ ob, ob = wr.heap.size := ⟨_, rfl⟩
          rw [← hobE] at hmk O0 hob
          have HOB := Lib.hid (And.intro hobE hob)
          clear hobE hob htt
          go_wp2_with fail
          clear hmk hj hjI ltI
          have HMV : Hid (∀ (x : Int), Gp.u64 x → ∀ (W : World), Ch [] wr W → Calls Tryd.prog 30 #[.int .u64 x, .slice (some ⟨tb, 0, none⟩) N N] W fun e w' => e = .returned (.int .u64 (mvT to x)) ∧ w' = W) := Lib.hid (fun x hx W c => moved_any W x tb N to hx HNU.out.len (by omega) (fun i => by
            by_cases h : i < N
            · have := HNU.out.lt i h; omega
            · rw [List.getD_eq_getElem?_getD, List.getElem?_eq_none (by rw [HNU.out.len]; omega)]; simp) (c.heap T2.out (by simp)))
          generalize wr.alloc (.cells (flat (List.replicate N z)).toArray 55) = w7 at *
          generalize hw6 : wr = w6 at *
          go_loopw [21] (fun i wr => ∃ (j : Nat), i = .int .i64 j ∧ j ≤ n ∧ wr.heap[ob]? = some (.cells (flat (othK h to N j)).toArray 55 (0, 0)) ∧ Ch [] w6 wr) (fun i _ => n - (intOf i).toNat)
          case atStart => exact ⟨0, rfl, by omega, O0.out, CO.out⟩
          case round =>
            obtain ⟨j, rfl, hj, hoo, hc⟩ := hrel
            by_cases hlt : j < n
            · as_aux_lemma =>
              have ltI : (j : Int) < n := by omega
              have CX := C3.out.trans' (C5.out.trans' (CT2.out.trans' hc))
              obtain ⟨bh, oh, rfl, _, hhj⟩ := (HR.out.ch CX (T' := []) (by simp)).2.resolve_left (by omega)
              have hjh : j < h.length := by rw [← HN.out]; exact hlt
              have hA : ∀ t, t < 4 → wr.cell? ⟨bh, oh + (j * 4 + t), none⟩ = (celV (h.getD j z))[t]? := fun t ht => (hhj (j * 4 + t) (by omega)).trans (flat_get h j t hjh ht)
              have d0 := hA 0 (by omega)
              have d1 := hA 1 (by omega)
              have d2 := hA 2 (by omega)
              have d3 := hA 3 (by omega)
              obtain ⟨i1, i2, i3, i4, i5, i6⟩ := InR.at HH.out j hjh
              have HOC : Hid (othC h to j = ⟨(h.getD j z).k, ((j % 3 : Nat) : Int), mvT to (h.getD j z).a, mvT to (h.getD j z).b⟩) := Lib.hid rfl
              generalize h.getD j z = cel at *
              obtain ⟨ck, cc, ca, cb⟩ := cel
              simp only [celV, List.getElem?_cons_zero, List.getElem?_cons_succ, Nat.add_zero, ← Nat.add_assoc] at d0 d1 d2 d3
              simp only at i1 i2 i3 i4 i5 i6 HOC
              have PM : Hid (∀ (x : Int), (x = ca ∨ x = cb) → ∀ (W : World), Ch [] wr W → Calls Tryd.prog 30 #[.int .u64 x, .slice (some ⟨tb, 0, none⟩) N N] W fun e w' => e = .returned (.int .u64 (mvT to x)) ∧ w' = W) := Lib.hid (fun x hx W c => HMV.out x (by rcases hx with rfl | rfl; exact i5; exact i6) W (hc.trans' c))
              have m1 := cell_at (i := j) (heap_old (o' := .cells #[.int .u8 ck, .int .u8 cc, .int .u64 ca, .int .u64 cb] 55) (hc.heap T2.out (by simp)))
              rw [List.getElem?_toArray, nv_at _ _ (by rw [HNU.out.len]; omega)] at m1
              have hlt2 := HNU.out.lt j (by omega)
              have HS : Hid (othK h to N (j + 1) = (othK h to N j).set (to.getD j 0) (othC h to j)) := Lib.hid rfl
              rw [HOC.out] at HS
              have HJM : Hid ((j : Int) % 3 = ((j % 3 : Nat) : Int)) := Lib.hid (by omega)
              generalize to.getD j 0 = y at *
              have lty : (y : Int) < N := by omega
              have ltJ : (j : Int) < N := by omega
              have ltJn : j < N := by omega
              have hoA : (wr.alloc (.cells #[.int .u8 ck, .int .u8 cc, .int .u64 ca, .int .u64 cb] 55)).heap[ob]? = some (.cells (flat (othK h to N j)).toArray 55 (0, 0)) := heap_old hoo
              have HKS : Hid (∀ W, Ch [ob] (wr.alloc (.cells #[.int .u8 ck, .int .u8 cc, .int .u64 ca, .int .u64 cb] 55)) W → W.cell? ⟨tb, j, none⟩ = some (.int .i64 y) ∧ W.cell? ⟨wr.heap.size, 0, none⟩ = some (.int .u8 ck) ∧ W.cell? ⟨wr.heap.size, 2, none⟩ = some (.int .u64 ca) ∧ W.cell? ⟨wr.heap.size, 3, none⟩ = some (.int .u64 cb)) := Lib.hid (fun W c => by
                have l1 := lt_of hoo
                have l2 := HOB.out
                have l3 := lt_of T2.out
                have hh := c.heap (heap_new wr _) (by simp; omega)
                exact ⟨c.cell m1 (by simp; omega), cell_at hh, cell_at hh, cell_at hh⟩)
              have HOO := Lib.hid hoA
              have HC := Lib.hid hc
              have o0 := cell_at (i := y * 4) hoA
              have o1 := cell_at (i := y * 4 + 1) hoA
              have o2 := cell_at (i := y * 4 + 2) hoA
              have o3 := cell_at (i := y * 4 + 3) hoA
              have hyl : y < (othK h to N j).length := by rw [othK_len]; exact hlt2
              have g0 := flat_get (othK h to N j) y 0 hyl (by omega)
              have g1 := flat_get (othK h to N j) y 1 hyl (by omega)
              have g2 := flat_get (othK h to N j) y 2 hyl (by omega)
              have g3 := flat_get (othK h to N j) y 3 hyl (by omega)
              rw [Nat.add_zero] at g0
              rw [List.getElem?_toArray] at o0 o1 o2 o3
              rw [g0] at o0
              rw [g1] at o1
              rw [g2] at o2
              rw [g3] at o3
              have p0 := free_at (i := y * 4) hoA
              have p1 := free_at (i := y * 4 + 1) hoA
              have p2 := free_at (i := y * 4 + 2) hoA
              have p3 := free_at (i := y * 4 + 3) hoA
              have HFS := Lib.hid (flat_set (othK h to N j) y (othC h to j) hyl)
              rw [HOC.out] at HFS
              generalize (othK h to N j).getD y z = ocl at *
              obtain ⟨oa, ob', oc, od⟩ := ocl
              simp only [celV, List.getElem?_cons_zero, List.getElem?_cons_succ] at o0 o1 o2 o3
              clear hA hhj hlt2 i1 i2 i3 i4 i5 i6 g0 g1 g2 g3 hc hoo hoA CX
              have r0 : (wr.alloc (.cells #[.int .u8 ck, .int .u8 cc, .int .u64 ca, .int .u64 cb] 55)).drew.cell? ⟨ob, y * 4, none⟩ = _ := o0
              have r1 : (wr.alloc (.cells #[.int .u8 ck, .int .u8 cc, .int .u64 ca, .int .u64 cb] 55)).drew.cell? ⟨ob, y * 4 + 1, none⟩ = _ := o1
              have r2 : (wr.alloc (.cells #[.int .u8 ck, .int .u8 cc, .int .u64 ca, .int .u64 cb] 55)).drew.cell? ⟨ob, y * 4 + 2, none⟩ = _ := o2
              have r3 : (wr.alloc (.cells #[.int .u8 ck, .int .u8 cc, .int .u64 ca, .int .u64 cb] 55)).drew.cell? ⟨ob, y * 4 + 3, none⟩ = _ := o3
              have s0 : (wr.alloc (.cells #[.int .u8 ck, .int .u8 cc, .int .u64 ca, .int .u64 cb] 55)).drew.frozen? ⟨ob, y * 4, none⟩ = _ := p0
              have s1 : (wr.alloc (.cells #[.int .u8 ck, .int .u8 cc, .int .u64 ca, .int .u64 cb] 55)).drew.frozen? ⟨ob, y * 4 + 1, none⟩ = _ := p1
              have s2 : (wr.alloc (.cells #[.int .u8 ck, .int .u8 cc, .int .u64 ca, .int .u64 cb] 55)).drew.frozen? ⟨ob, y * 4 + 2, none⟩ = _ := p2
              have s3 : (wr.alloc (.cells #[.int .u8 ck, .int .u8 cc, .int .u64 ca, .int .u64 cb] 55)).drew.frozen? ⟨ob, y * 4 + 3, none⟩ = _ := p3
              go_wp2_with fail
              go_region_held3 (fun w' => w'.cell? ⟨tb, j, none⟩ = some (.int .i64 y) ∧ w'.cell? ⟨wr.heap.size, 0, none⟩ = some (.int .u8 ck) ∧ w'.cell? ⟨wr.heap.size, 2, none⟩ = some (.int .u64 ca) ∧ w'.cell? ⟨wr.heap.size, 3, none⟩ = some (.int .u64 cb)) (refine HKS.out _ ?_ <;> repeat (first | exact Ch.refl _ _ | apply Ch.drew | refine Ch.setCell ?_ _ _ (Or.inl (List.mem_singleton.2 rfl)))) (first | (go_at_call 30; refine (PM.out _ (by first | exact Or.inl rfl | exact Or.inr rfl) _ (by repeat (first | exact Ch.refl _ _ | apply Ch.drew | apply Ch.alloc))).mono ?_; rintro e w9 ⟨rfl, rfl⟩))
              all_goals
                go_wp2_with fail
                go_roundw
                case rel =>
                  have l2 := HOB.out
                  refine ⟨j + 1, by go_num, by omega, ?_, (((((HC.out.alloc _).setCell _ _ (.inr (by show w6.heap.size ≤ ob; omega))).setCell _ _ (.inr (by show w6.heap.size ≤ ob; omega))).setCell _ _ (.inr (by show w6.heap.size ≤ ob; omega))).setCell _ _ (.inr (by show w6.heap.size ≤ ob; omega))).drew⟩
                  have := heap_set (i := y * 4 + 3) (heap_set (i := y * 4 + 2) (heap_set (i := y * 4 + 1) (heap_set (i := y * 4) HOO.out (.int .u8 ck)) (.int .u8 ((j : Int) % 3))) (.int .u64 (mvT to ca))) (.int .u64 (mvT to cb))
                  rw [HJM.out, HFS.out, ← HS.out] at this
                  rw [HJM.out]
                  exact this
                case measure => simp [intOf]; omega
            · as_aux_lemma =>
              obtain rfl : n = j := by omega
              have ltI : ¬ (n : Int) < n := by omega
              have l2 := HOB.out
              have hlt2 := HNU.out.lt n (by omega)
              have HS2 : Hid (oth h to = (othK h to N n).set (to.getD n 0) ⟨1, 0, refW 0, refW n⟩) := Lib.hid (by unfold oth lastC; rw [← HN.out, ← HNN.out])
              have R0 := Lib.hid (fun W => Rd.Ref_any W 0 (by omega) (by omega))
              have RN := Lib.hid (fun W => Rd.Ref_any W (n : Int) (by omega) (by omega))
              have m1 := cell_at (i := n) (hc.heap T2.out (by simp))
              rw [List.getElem?_toArray, nv_at _ _ (by rw [HNU.out.len]; omega)] at m1
              have hyl0 : to.getD n 0 < (othK h to N n).length := by rw [othK_len]; exact hlt2
              generalize to.getD n 0 = y at *
              generalize refW 0 = r0 at *
              generalize refW (n : Int) = rn at *
              have hoA : (wr.alloc (.cells #[.int .u8 1, .int .u8 0, .int .u64 r0, .int .u64 rn] 55)).heap[ob]? = some (.cells (flat (othK h to N n)).toArray 55 (0, 0)) := heap_old hoo
              have HKS : Hid (∀ W, Ch [ob] wr W → W.cell? ⟨tb, n, none⟩ = some (.int .i64 y)) := Lib.hid (fun W c => c.cell m1 (by simp; omega))
              have HOO := Lib.hid hoA
              have HC := Lib.hid hc
              have o0 := cell_at (i := y * 4) hoA
              have o1 := cell_at (i := y * 4 + 1) hoA
              have o2 := cell_at (i := y * 4 + 2) hoA
              have o3 := cell_at (i := y * 4 + 3) hoA
              have g0 := flat_get (othK h to N n) y 0 hyl0 (by omega)
              have g1 := flat_get (othK h to N n) y 1 hyl0 (by omega)
              have g2 := flat_get (othK h to N n) y 2 hyl0 (by omega)
              have g3 := flat_get (othK h to N n) y 3 hyl0 (by omega)
              rw [Nat.add_zero] at g0
              rw [List.getElem?_toArray] at o0 o1 o2 o3
              rw [g0] at o0
              rw [g1] at o1
              rw [g2] at o2
              rw [g3] at o3
              have p0 := free_at (i := y * 4) hoA
              have p1 := free_at (i := y * 4 + 1) hoA
              have p2 := free_at (i := y * 4 + 2) hoA
              have p3 := free_at (i := y * 4 + 3) hoA
              have HFS := Lib.hid (flat_set (othK h to N n) y ⟨1, 0, r0, rn⟩ hyl0)
              generalize (othK h to N n).getD y z = ocl at *
              obtain ⟨oa, ob', oc, od⟩ := ocl
              simp only [celV, List.getElem?_cons_zero, List.getElem?_cons_succ] at o0 o1 o2 o3
              have q0 : (wr.alloc (.cells #[.int .u8 1, .int .u8 0, .int .u64 r0, .int .u64 rn] 55)).drew.cell? ⟨ob, y * 4, none⟩ = _ := o0
              have q1 : (wr.alloc (.cells #[.int .u8 1, .int .u8 0, .int .u64 r0, .int .u64 rn] 55)).drew.cell? ⟨ob, y * 4 + 1, none⟩ = _ := o1
              have q2 : (wr.alloc (.cells #[.int .u8 1, .int .u8 0, .int .u64 r0, .int .u64 rn] 55)).drew.cell? ⟨ob, y * 4 + 2, none⟩ = _ := o2
              have q3 : (wr.alloc (.cells #[.int .u8 1, .int .u8 0, .int .u64 r0, .int .u64 rn] 55)).drew.cell? ⟨ob, y * 4 + 3, none⟩ = _ := o3
              have s0 : (wr.alloc (.cells #[.int .u8 1, .int .u8 0, .int .u64 r0, .int .u64 rn] 55)).drew.frozen? ⟨ob, y * 4, none⟩ = _ := p0
              have s1 : (wr.alloc (.cells #[.int .u8 1, .int .u8 0, .int .u64 r0, .int .u64 rn] 55)).drew.frozen? ⟨ob, y * 4 + 1, none⟩ = _ := p1
              have s2 : (wr.alloc (.cells #[.int .u8 1, .int .u8 0, .int .u64 r0, .int .u64 rn] 55)).drew.frozen? ⟨ob, y * 4 + 2, none⟩ = _ := p2
              have s3 : (wr.alloc (.cells #[.int .u8 1, .int .u8 0, .int .u64 r0, .int .u64 rn] 55)).drew.frozen? ⟨ob, y * 4 + 3, none⟩ = _ := p3
              have ltN : (n : Int) < N := by omega
              have ltNn : n < N := by omega
              have lty : (y : Int) < N := by omega
              have C8 : Hid (∀ W, W = ((((wr.alloc (.cells #[.int .u8 1, .int .u8 0, .int .u64 r0, .int .u64 rn] 55)).setCell ⟨ob, y * 4, none⟩ (.int .u8 1)).setCell ⟨ob, y * 4 + 1, none⟩ (.int .u8 0)).setCell ⟨ob, y * 4 + 2, none⟩ (.int .u64 r0)).setCell ⟨ob, y * 4 + 3, none⟩ (.int .u64 rn) → Ch [] w6 W.drew ∧ W.drew.heap[ob]? = some (.cells (flat (oth h to)).toArray 55 (0, 0)) ∧ W.drew.heap[tb]? = some (.cells (nv to).toArray 3 (0, 0))) := Lib.hid (fun W hW => by
                have c : Ch [] w6 W := by
                  rw [hW]
                  exact ((((HC.out.alloc _).setCell _ _ (.inr (by show w6.heap.size ≤ ob; omega))).setCell _ _ (.inr (by show w6.heap.size ≤ ob; omega))).setCell _ _ (.inr (by show w6.heap.size ≤ ob; omega))).setCell _ _ (.inr (by show w6.heap.size ≤ ob; omega))
                refine ⟨c.drew, ?_, c.drew.heap T2.out (by simp)⟩
                show W.heap[ob]? = _
                rw [hW]
                have := heap_set (i := y * 4 + 3) (heap_set (i := y * 4 + 2) (heap_set (i := y * 4 + 1) (heap_set (i := y * 4) HOO.out (.int .u8 1)) (.int .u8 0)) (.int .u64 r0)) (.int .u64 rn)
                rw [HFS.out, ← HS2.out] at this
                exact this)
              clear hlt2 g0 g1 g2 g3 hc hoo hoA O0 CO l2 hlt hj
              go_wp2_with fail
              go_region_held3 (fun w' => w'.cell? ⟨tb, n, none⟩ = some (.int .i64 y)) (refine HKS.out _ ?_ <;> repeat (first | exact Ch.refl _ _ | apply Ch.drew | apply Ch.alloc | refine Ch.setCell ?_ _ _ (Or.inl (List.mem_singleton.2 rfl)))) (first | (go_at_call_of 32 (Value.int .i64 0); refine (R0.out _).mono ?_; rintro e w9 ⟨rfl, rfl⟩) | (go_at_call_of 32 (Value.int .i64 (n : Int)); refine (RN.out _).mono ?_; rintro e w9 ⟨rfl, rfl⟩) | (go_at_call 31; refine (pair_any _ _ _).mono ?_; rintro e w9 ⟨rfl, rfl⟩))
              obtain ⟨c8, o8, t8⟩ := C8.out _ rfl
              have HC8 := Lib.hid c8
              have HO8 := Lib.hid o8
              clear o0 o1 o2 o3 p0 p1 p2 p3 q0 q1 q2 q3 s0 s1 s2 s3 C8 HKS HOO HC R0 RN HFS HS2 c8 o8 t8 m1 lty ltN ltNn ltI
              generalize (((((wr.alloc (.cells #[.int .u8 1, .int .u8 0, .int .u64 r0, .int .u64 rn] 55)).setCell ⟨ob, y * 4, none⟩ (.int .u8 1)).setCell ⟨ob, y * 4 + 1, none⟩ (.int .u8 0)).setCell ⟨ob, y * 4 + 2, none⟩ (.int .u64 r0)).setCell ⟨ob, y * 4 + 3, none⟩ (.int .u64 rn)).drew = w8 at *
              have C38 := Lib.hid (C5.out.trans' (CT2.out.trans' HC8.out))
              have C18 := Lib.hid (C3.out.trans' C38.out)
              have HRW8 := Lib.hid (HRW.out.ch (T' := []) C18.out (by simp))
              have HMV8 : Hid (∀ (x : Int), Gp.u64 x → ∀ (W : World), Ch [] w8 W → Calls Tryd.prog 30 #[.int .u64 x, .slice (some ⟨tb, 0, none⟩) N N] W fun e w' => e = .returned (.int .u64 (mvT to x)) ∧ w' = W) := Lib.hid (fun x hx W c => HMV.out x hx W (HC8.out.trans' c))
              clear HMV
              go_wp2_with fail
              go_loopw [24, 23] (fun i o wr => ∃ (j : Nat) (qs : List Nat), i = .int .i64 j ∧ j ≤ m ∧ Row wr 53 1 o qs j (mvL to ws j) ∧ Ch [] w8 wr ∧ ∀ q ∈ qs, w8.heap.size ≤ q) (fun i o _ => m - (intOf i).toNat)
              case atStart => exact ⟨0, [], rfl, by omega, Row.nil _ _ _ _, Ch.refl _ _, by simp⟩
              case round =>
                obtain ⟨j, qs2, rfl, hjm, hrow, hc, hqs⟩ := hrel
                obtain ⟨ak, ck, rfl, k1, k2, q3⟩ := hrow.rd
                rw [Nat.mul_one] at q3
                by_cases hlt : j < m
                · as_aux_lemma =>
                  clear q3
                  have HROW2 := Lib.hid hrow
                  have HC := Lib.hid hc
                  have HQ2 := Lib.hid hqs
                  have hjl : j < ws.length := by rw [← HM.out]; exact hlt
                  obtain ⟨bw, ow, rfl, _, hwj⟩ := HRW8.out.2.resolve_left (by omega)
                  have HML := Lib.hid (mvL_snoc to ws j hjl)
                  have hvm : ws.getD j 0 ∈ ws := by simp [List.getD_eq_getElem?_getD, hjl]
                  have a1 := hc.cell ((hwj j hlt).trans (ints_get hjl)) (by simp)
                  generalize ws.getD j 0 = x at *
                  have F := HMV8.out x (HU.out x hvm) wr hc
                  generalize mvT to x = mx at *
                  have ltJ : (j : Int) < m := by omega
                  obtain ⟨i0, hi, he⟩ := Option.map_eq_some_iff.1 infoWord
                  simp only [Prod.mk.injEq] at he
                  obtain ⟨hz0, hz1, hz2⟩ := he
                  have CAB := Lib.hid ((Ch.refl [] wr).alloc (.cells #[.int .u64 mx] 53))
                  have HR1 := Lib.hid (hrow.ch CAB.out (by simp))
                  have HN1 := Lib.hid (newL (w := wr) (b := wr.heap.size) rfl [.int .u64 mx] 53)
                  clear hrow hc hqs hwj hvm
                  go_wp2_with fail
                  refine F.mono ?_
                  rintro e w' ⟨rfl, rfl⟩
                  go_wp2_with (at_builtin; go_loud (refine wpList_append_row _ rfl _ _ 24 rfl 53 i0 _ 1 8 Tryd.underlying24 hi hz0 hz1 hz2 rfl (by decide) rfl HR1.out ⟨w'.heap.size, 0, none⟩ 1 1 [.int .u64 mx] rfl rfl HN1.out (one1 _ _) (by unfold maxLen; omega) (by omega) ?_))
                  intro v' w1 qs' hr4 hc4 hq4
                  have HR4 := Lib.hid hr4
                  have HC4 := Lib.hid hc4
                  have HQ4 := Lib.hid hq4
                  obtain ⟨ao4, cap4, rfl, _⟩ := hr4.rd
                  clear hr4 hc4 hq4
                  go_wp2_with fail
                  go_roundw
                  case rel =>
                    refine ⟨j + 1, qs', by go_num, by omega, by rw [HML.out]; exact HR4.out, (HC.out.trans' CAB.out).trans HC4.out (fun x hx => .inr (HQ2.out x hx)), fun q hq => ?_⟩
                    have s1 := CAB.out.size
                    have s3 := HC.out.size
                    rcases HQ4.out with e | ⟨q', e, h3, h4⟩
                    · rw [e] at hq; exact HQ2.out q hq
                    · rw [e] at hq; simp at hq; subst hq; omega
                  case measure => simp [intOf]; omega
                · as_aux_lemma =>
                  obtain rfl : m = j := by omega
                  have ltI : ¬ (m : Int) < m := by omega
                  have hta : ws.take m = ws := List.take_of_length_le (by rw [← HM.out]; exact Nat.le_refl _)
                  unfold mvL at q3
                  rw [hta] at q3
                  have hol := oth_len h to
                  rw [← HN.out, ← HNN.out] at hol
                  have ho9 := hc.heap HO8.out (by simp)
                  have hnu : Num to (h.length + 1) := by rw [← HN.out, ← HNN.out]; exact HNU.out
                  obtain ⟨f1, f2, f3⟩ := form_oth HMAY.out (by rw [← HN.out]; omega) hnu
                  have C19 := C18.out.trans' hc
                  have A := Form_any (ao := some ⟨ob, 0, none⟩) (cap := N) (h := oth h to) (aw := ak) (cw := ck) (ws := ws.map (mvT to)) (m := m) (w := wr) (by rw [hol]; omega) (by omega) ⟨flat_len _, .inr ⟨ob, 0, rfl, by simp, fun j hj => by rw [cell_at ho9, List.getElem?_toArray, Nat.zero_add]⟩⟩ (rdF0 q3) (oth_in HH.out hnu) (fun v hv => by obtain ⟨u, hu, rfl⟩ := List.mem_map.1 hv; exact mvT_u (HU.out u hu)) (Bnd.ch HB.out C19 (by simp))
                  unfold FormPost at A
                  have e1 : gErr (oth h to) (ws.map (mvT to)) = 0 := by unfold gErr; rw [if_pos f1]
                  rw [e1, f2, f3, HXE.out, HYE.out, hol, ← HN1.out, HW1.out] at A
                  have C39 := Lib.hid (C38.out.trans' hc)
                  clear e1 f1 f2 f3 hnu ho9 hol hta q3 hrow hc hqs hlt hjm C19 HMV8 HO8 HOB T2 HNU HTL HRW8
                  go_wp2_with fail
                  refine A.mono ?_
                  rintro e w9 ⟨v1, q1, v2, q2, rfl, g1, g2, g3, _⟩
                  obtain ⟨au, cu, rfl, x1, x2, x3⟩ := g1.rd
                  obtain ⟨av, cv, rfl, y1, y2, y3⟩ := g2.rd
                  rw [Nat.mul_one] at y3
                  have C9 := Lib.hid (C39.out.trans' g3)
                  have A := HSC.out w9 au cu C9.out x3
                  have HY4 := Lib.hid y3
                  have HYC4 := Lib.hid (And.intro y1 y2)
                  clear g1 g2 g3 x1 x2 x3 y1 y2 y3 C39
                  go_wp2_with fail
                  refine A.mono ?_
                  rintro e wd ⟨rfl, d, rfl⟩
                  have CD := Lib.hid ((Ch.refl [] w9).drewN d)
                  generalize w9.drewN d = wd at *
                  have A := HSW.out wd av cv (C9.out.trans' CD.out) HYC4.out.1 HYC4.out.2 (HY4.out.ch CD.out)
                  go_wp2_with fail
                  refine A.mono ?_
                  rintro e we ⟨rfl, d, rfl⟩
                  have C10 := Lib.hid ((C9.out.trans' CD.out).drewN d)
                  generalize wd.drewN d = w10 at *
                  clear A CD C9 HY4 HYC4 HSW HY HYC HYE HW1
                  have CB := Lib.hid (C3.out.trans' C10.out)
                  have A := Order_any (ao := ao) (cap := cap) (h := h) (aw := aw) (cw := cw) (ws := ws) (m := m) (w := w10) (by rw [← HN.out]; omega) (by omega) (by rw [← HN.out]; exact HR.out.ch CB.out (by simp)) (HRW.out.ch CB.out (by simp)) HH.out HU.out (Bnd.ch HB.out CB.out (by simp))
                  rw [← HN.out] at A
                  unfold Mk at A
                  have e1 : gErr h ws = 0 := by unfold gErr; rw [if_pos HMAY.out]
                  have e2 : met h ws = (order h ws).2 := by unfold met; rw [if_pos HMAY.out]
                  rw [e1, e2] at A
                  have HLI : Hid (∀ c ∈ (order h ws).2, c < n) := Lib.hid (fun c hc => by rw [HN.out]; exact (((order_inv HMAY.out).mem c).1 hc).1)
                  have HLL : Hid ((order h ws).2.length ≤ n) := Lib.hid (by rw [HN.out]; exact (order_inv HMAY.out).le)
                  have HTU : Hid (∀ c ∈ (order h ws).2, (h.getD c z).k ≠ 0 → ∀ x : Int, isRef x = false → ofOk x = true → (h.getD c z).a ≠ x → may (h.set c { h.getD c z with a := x }) ws = true ∧ formH (h.set c { h.getD c z with a := x }) ws ≠ formH h ws) := Lib.hid (fun c hc hk x h1 h2 h3 => form_turned HMAY.out hc hk h1 h2 h3)
                  rw [HXE.out] at HTU
                  generalize (order h ws).2 = L at *
                  obtain ⟨l, hl⟩ : ∃ l, l = L.length := ⟨_, rfl⟩
                  rw [← hl] at A HLL
                  have HL := Lib.hid hl
                  clear e1 e2 hl HMAY HXE
                  go_wp2_with fail
                  refine A.mono ?_
                  rintro e w11 ⟨v1, q1, rfl, g1, g2, _⟩
                  obtain ⟨al, cl, rfl, x1, x2, x3⟩ := g1.rd
                  rw [Nat.mul_one] at x3
                  have CF := Lib.hid (C10.out.trans' g2)
                  have HRL := Lib.hid x3
                  clear A g1 g2 x1 x2 x3 C10 CB
                  by_cases hl0 : l = 0
                  · as_aux_lemma =>
                    subst hl0
                    have CE := Lib.hid (C1.out.trans' (C3.out.trans' CF.out))
                    go_wp2_with fail
                    go_ret
                    exact ⟨rfl, CE.out⟩
                  have hlI : ((l : Int) == 0) = false := by simp; omega
                  have CG := Lib.hid (C3.out.trans' CF.out)
                  have gat := CG.out.cell HG.out (by simp)
                  change _ = some (Value.int .i64 at_) at gat
                  have hlb := HLL.out
                  have P := pick_any w11 at_ l HAT.out.1 HAT.out.2 (by omega) (by omega)
                  have hpl := (pick_cast at_ l (by omega)).2
                  generalize pickN at_ l = q at *
                  have hql : q < L.length := by rw [← HL.out]; exact hpl
                  obtain ⟨bl, ol, rfl, hlj⟩ := HRL.out.2.resolve_left (by omega)
                  have al := (hlj q hpl).trans (nv_at _ _ hql)
                  have hcm := Bf.getD_in L q hql
                  have hcn := HLI.out _ hcm
                  have HTC := Lib.hid (HTU.out _ hcm)
                  generalize L.getD q 0 = c at *
                  obtain ⟨bh, oh, rfl, hbt, hhj⟩ := (HR.out.ch CG.out (T' := []) (by simp)).2.resolve_left (by omega)
                  have hch : c < h.length := by rw [← HN.out]; exact hcn
                  have hA : ∀ t, t < 4 → w11.cell? ⟨bh, oh + (c * 4 + t), none⟩ = (celV (h.getD c z))[t]? := fun t ht => (hhj (c * 4 + t) (by omega)).trans (flat_get h c t hch ht)
                  have d0 := hA 0 (by omega)
                  obtain ⟨_, _, _, _, i5, i6⟩ := InR.at HH.out c hch
                  have HA2 := Lib.hid (flat_get h c 2 hch (by omega))
                  obtain ⟨cel, hcel⟩ : ∃ cel, cel = h.getD c z := ⟨_, rfl⟩
                  rw [← hcel] at d0 HA2 i5 i6
                  obtain ⟨ck0, cc0, ca0, cb0⟩ := cel
                  have HCEL := Lib.hid hcel.symm
                  simp only [celV, List.getElem?_cons_zero, List.getElem?_cons_succ, Nat.add_zero, ← Nat.add_assoc] at d0 HA2
                  simp only at i5 i6
                  have ltQ : (q : Int) < l := by omega
                  have ltC : (c : Int) < n := by omega
                  have CE := Lib.hid (C1.out.trans' CG.out)
                  clear hhj hA hlj hpl hql hcm hcel HTU HLI HRL hlb hl0
                  by_cases k0 : ck0 = 0
                  · as_aux_lemma =>
                    subst k0
                    go_wp2_with fail
                    refine P.mono ?_
                    rintro e w12 ⟨rfl, rfl⟩
                    clear P
                    go_wp2_with fail
                    go_ret
                    exact ⟨rfl, CE.out⟩
                  have hk0 : (ck0 == 0) = false := by simpa using k0
                  have HK0 := Lib.hid k0
                  go_wp2_with fail
                  refine P.mono ?_
                  rintro e w12 ⟨rfl, rfl⟩
                  clear P k0
                  obtain ⟨i0, hi, he⟩ := Option.map_eq_some_iff.1 infoCell
                  simp only [Prod.mk.injEq] at he
                  obtain ⟨hz0, hz1, hz2⟩ := he
                  have HCL : Hid (Hp.Rd w12 (some ⟨bh, oh, none⟩) (n * 4) (flat h)) := Lib.hid (RdF.rd (HR.out.ch CG.out (T' := []) (by simp)))
                  have HONE := Lib.hid (flat_one h)
                  go_wp2_with (at_builtin; go_loud (refine wpList_append_copy _ rfl _ _ 23 rfl 55 i0 _ 4 24 Tryd.underlying23 hi hz0 hz1 hz2 rfl (by decide) rfl (some ⟨bh, oh, none⟩) n cap rfl (flat h) HCL.out HONE.out (by unfold maxLen; omega) (by omega) ?_))
                  intro v1 w13 q1 g1 g2 g3
                  obtain ⟨_, at2, ct, rfl, t1, t2, _, t4⟩ := g1
                  obtain ⟨bq, oq, arr, hq, rfl, hh, hs, hj⟩ := t4.resolve_left (by omega)
                  have hbq : w12.heap.size ≤ bq := by
                    rcases g3 with rfl | ⟨q', rfl, h1, h2⟩
                    · cases hq
                    · simp at hq; omega
                  have a2 : w13.cell? ⟨bq, oq + c * 4 + 2, none⟩ = some (.int .u64 ca0) := by
                    rw [cell_at hh, show oq + c * 4 + 2 = oq + (c * 4 + 2) by omega, hj (c * 4 + 2) (by omega)]
                    exact HA2.out
                  have f2 := free_at (i := oq + c * 4 + 2) hh
                  have HFT : Hid (∀ x : Int, isRef x = false → ofOk x = true → ca0 ≠ x → Gp.u64 x → Calls Tryd.prog 26 #[.slice (some ⟨bq, oq, none⟩) n ct, .slice aw m cw] (w13.setCell ⟨bq, oq + c * 4 + 2, none⟩ (.int .u64 x)) fun en w' => ∃ (Z : List Cel) (az : Option Addr) (cz : Nat) (vy : Value), en = .returned (.tuple #[.slice az Z.length cz, vy, .int .i64 0]) ∧ Hp.Rd w' az (Z.length * 4) (flat Z) ∧ Ch [] w3 w' ∧ decide (Z = X) = false ∧ Z.length ≤ n ∧ ∃ (a : Option Addr) (k l : Nat), vy = .slice a k l) := Lib.hid (fun x h1 h2 h3 hx64 => by
                    obtain ⟨m1, m2⟩ := HTC.out (by rw [HCEL.out]; exact HK0.out) x h1 h2 (by rw [HCEL.out]; exact h3)
                    have hlen : (h.set c { h.getD c z with a := x }).length = n := by rw [List.length_set, HN.out]
                    have CS : Ch [] w3 (w13.setCell ⟨bq, oq + c * 4 + 2, none⟩ (.int .u64 x)) := (CF.out.trans' g2).setCell _ _ (.inr (by have := CF.out.size; show w3.heap.size ≤ bq; omega))
                    have CW := C3.out.trans' CS
                    have A := Form_any (ao := some ⟨bq, oq, none⟩) (cap := ct) (h := h.set c { h.getD c z with a := x }) (aw := aw) (cw := cw) (ws := ws) (m := m) (w := w13.setCell ⟨bq, oq + c * 4 + 2, none⟩ (.int .u64 x)) (by rw [hlen]; omega) (by omega) ⟨flat_len _, .inr ⟨bq, oq, rfl, by simp, fun j hj2 => by
                      rw [cell_at (heap_set hh _)]
                      exact turn_at hch (by rw [← HN.out]; omega) (fun j hj3 => hj j (by rw [HN.out]; exact hj3)) j (by simpa using hj2)⟩⟩ (HRW.out.ch CW (by simp)) (fun y hy => by
                        rcases List.mem_or_eq_of_mem_set hy with hy | rfl
                        · exact HH.out y hy
                        · obtain ⟨k1, k2, k3, k4, k5, k6⟩ := InR.at HH.out c hch
                          exact ⟨k1, k2, k3, k4, hx64, k6⟩) HU.out (Bnd.ch HB.out CW (by simp))
                    rw [hlen] at A
                    refine A.mono ?_
                    rintro e w' ⟨vx, qx, vy, qy, rfl, r1, r2, r3, _⟩
                    obtain ⟨az, cz, rfl, _, _, z3⟩ := r1.rd
                    obtain ⟨ay2, cy2, rfl, _⟩ := r2.rd
                    refine ⟨formH (h.set c { h.getD c z with a := x }) ws, az, cz, .slice ay2 (formW (h.set c { h.getD c z with a := x }) ws).length cy2, ?_, z3, CS.trans' r3, decide_eq_false m2, ?_, ay2, (formW (h.set c { h.getD c z with a := x }) ws).length, cy2, rfl⟩
                    · unfold gErr; rw [if_pos m1]
                    · rw [formH_len m1, ← hlen]; exact (order_inv m1).le)
                  have I7 := Lib.hid (fun W => Rd.Int_any W 7)
                  have I8 := Lib.hid (fun W => Rd.Int_any W 8)
                  rw [show mkW 5 7 = 117 by decide] at I7
                  rw [show mkW 5 8 = 133 by decide] at I8
                  clear hq hs hj hh g2 g3 hbq t1 t2 t4 HCL HONE d0 gat HCEL HTC HA2 hi hz0 hz1 hz2
                  by_cases h7 : ca0 = 117
                  · as_aux_lemma =>
                    subst h7
                    have FT := HFT.out 133 (by decide) (by decide) (by decide) (by unfold Gp.u64; omega)
                    clear HFT
                    go_wp2_with fail
                    refine (I7.out _).mono ?_
                    rintro e w14 ⟨rfl, rfl⟩
                    go_wp2_with fail
                    refine (I8.out _).mono ?_
                    rintro e w15 ⟨rfl, rfl⟩
                    go_wp2_with fail
                    refine FT.mono ?_
                    rintro e w16 ⟨Z, az, cz, vy, rfl, z1, z2, z3, z4, a', k', l', rfl⟩
                    have SC := SameCells_any w16 az ax Z.length cz n1 cx Z X (by omega) (by omega) rfl HN1.out.symm z1 (HX.out.ch z2)
                    rw [z3] at SC
                    have CZ := Lib.hid (C1.out.trans' (C3.out.trans' z2))
                    clear FT z1 z2 z3
                    generalize Z.length = zn at *
                    go_wp2_with fail
                    refine SC.mono ?_
                    rintro e w17 ⟨rfl, d, rfl⟩
                    clear SC
                    go_wp2_with fail
                    go_ret
                    exact ⟨rfl, CZ.out.drewN d⟩
                  · as_aux_lemma =>
                    have FT := HFT.out 117 (by decide) (by decide) h7 (by unfold Gp.u64; omega)
                    have h7' : (ca0 == 117) = false := by simpa using h7
                    clear HFT
                    go_wp2_with fail
                    refine (I7.out _).mono ?_
                    rintro e w14 ⟨rfl, rfl⟩
                    go_wp2_with fail
                    refine FT.mono ?_
                    rintro e w16 ⟨Z, az, cz, vy, rfl, z1, z2, z3, z4, a', k', l', rfl⟩
                    have SC := SameCells_any w16 az ax Z.length cz n1 cx Z X (by omega) (by omega) rfl HN1.out.symm z1 (HX.out.ch z2)
                    rw [z3] at SC
                    have CZ := Lib.hid (C1.out.trans' (C3.out.trans' z2))
                    clear FT z1 z2 z3
                    generalize Z.length = zn at *
                    go_wp2_with fail
                    refine SC.mono ?_
                    rintro e w17 ⟨rfl, d, rfl⟩
                    clear SC
                    go_wp2_with fail
                    go_ret
                    exact ⟨rfl, CZ.out.drewN d⟩
end Go.Proofs.YtggijcebobjghaaDoor.L10
