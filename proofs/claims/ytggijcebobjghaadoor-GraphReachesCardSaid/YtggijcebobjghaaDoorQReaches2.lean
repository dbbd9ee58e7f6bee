/-
  THE WALK of reaches, on.
-/
import Derived.Test.YtggijcebobjghaaDoorQReaches
set_option linter.unusedVariables false
set_option linter.unusedSimpArgs false
set_option maxRecDepth 100000
namespace Go.Proofs.YtggijcebobjghaaDoor.L10
open Go.RowKit Go.Proofs.YtggijcebobjghaaDoor.Wd Go.Proofs.YtggijcebobjghaaDoor.Hp Go.Proofs.YtggijcebobjghaaDoor.Gp Go.Proofs.YtggijcebobjghaaDoor.Sm Go.Proofs.YtggijcebobjghaaDoor.Gr Go.Proofs.YtggijcebobjghaaDoor.Own
theorem nv_intsL (l : List Nat) : nv l = ints .i64 (l.map (fun (c : Nat) => (c : Int))) := by simp [nv, ints]
theorem same_nvL (w : World) (a1 a2 : Option Addr) (c1 c2 : Nat) (l : List Nat) (h1 : l.length ≤ c1) (h2 : c1 ≤ maxLen) (h3 : l.length ≤ c2) (h4 : c2 ≤ maxLen) (r1 : Hp.Rd w a1 l.length (nv l)) (r2 : Hp.Rd w a2 l.length (nv l)) :
    Calls Tryd.prog 21 #[.slice a1 l.length c1, .slice a2 l.length c2] w fun e w' => e = .returned (.bool true) ∧ ∃ d, w' = w.drewN d := by
  have Q := SameInts_any w a1 a2 _ c1 _ c2 (l.map (fun (c : Nat) => (c : Int))) (l.map (fun (c : Nat) => (c : Int))) h1 h2 h3 h4 (by rw [← nv_intsL]; exact r1) (by rw [← nv_intsL]; exact r2)
  simpa only [decide_true] using Q
theorem reach_len {h : List Cel} {ws : List Int} (hm : may h ws = true) : (reach h ws).length = h.length := by
  unfold reach; rw [if_pos hm]; exact Gp.order_len hm
theorem met_le (h : List Cel) (ws : List Int) : (met h ws).length ≤ h.length := by
  unfold met
  cases hm : may h ws
  · simp
  · simp only [if_true]; exact (Gp.ord_inv hm).le
theorem formH_len (h : List Cel) (ws : List Int) : (formH h ws).length ≤ h.length := by
  unfold formH
  cases hm : may h ws
  · simp
  · simp only [if_true, List.length_map]; exact (Gp.ord_inv hm).le
theorem formW_len (h : List Cel) (ws : List Int) : (formW h ws).length ≤ ws.length := by
  unfold formW; split <;> simp
theorem reach_le (h : List Cel) (ws : List Int) : (reach h ws).length ≤ h.length := by
  cases hm : may h ws
  · unfold reach; simp [hm]
  · rw [reach_len hm]; exact Nat.le_refl _
theorem Row.rdl2 {w : World} {e : TypeId} {sz n : Nat} {qs : List Nat} {v : Value} {xs : List Value} (h : Row w e sz v qs n xs) : ∃ ao cap, v = .slice ao n cap ∧ n ≤ cap ∧ cap ≤ maxLen ∧ Hp.Rd w ao (n * sz) xs := h.rd
set_option maxHeartbeats 4000000 in
theorem reaches_any {w0 w : World} {O : Nat → Nat} {bp k : Nat} (hg : G w0 w O) (hb : Bk4 w O bp k k k k) (hk : k ≤ 100) (a1 aw1 a2 aw2 : Option Addr) (c1 cw1 c2 cw2 : Nat) (h : List Cel) (ws : List Int) (m : Nat) (hn : h.length ≤ 200000) (hm : m ≤ 200000) (hwl : ws.length = m)
    (r1 : RdF w0 a1 (h.length * 4) (flat h) []) (q1 : RdF w0 aw1 m (ints .u64 ws) []) (r2 : RdF w0 a2 (h.length * 4) (flat h) []) (q2 : RdF w0 aw2 m (ints .u64 ws) []) (hh : ∀ x ∈ h, InR x) (hu : ∀ v ∈ ws, Gp.u64 v) (hB : Bnd w0) :
    Calls Tryd.prog 11 #[.slice a1 h.length c1, .slice aw1 m cw1, .slice a2 h.length c2, .slice aw2 m cw2, .pointer (some ⟨bp, 0, none⟩)] w fun e w' => e = .returned (.bool true) ∧ ∃ O', G w0 w' O' ∧ Bk4 w' O' bp (k + 1) (k + 1) (k + 1) (k + 1) := by
  have CK := Gr.Check_any w a1 c1 h (by omega) (r1.ch hg.ch (by simp)) hh (Bnd.ch hB hg.ch (by simp))
  have HCK2 := Lib.hid (fun (w1 : World) (c : Ch [] w0 w1) => R10.Check_any w1 a2 c2 h (by omega) (r2.ch c (by simp)) hh)
  have HRE := Lib.hid (fun (w1 : World) (c : Ch [] w0 w1) => Gr.Reach_any (ao := a1) (cap := c1) (h := h) (aw := aw1) (cw := cw1) (ws := ws) (m := m) (w := w1) (by omega) (by omega) (r1.ch c (by simp)) (q1.ch c (by simp)) hh hu (Bnd.ch hB c (by simp)))
  have HOR := Lib.hid (fun (w1 : World) (c : Ch [] w0 w1) => Gr.Order_any (ao := a1) (cap := c1) (h := h) (aw := aw1) (cw := cw1) (ws := ws) (m := m) (w := w1) (by omega) (by omega) (r1.ch c (by simp)) (q1.ch c (by simp)) hh hu (Bnd.ch hB c (by simp)))
  have HFO := Lib.hid (fun (w1 : World) (c : Ch [] w0 w1) => Gr.Form_any (ao := a1) (cap := c1) (h := h) (aw := aw1) (cw := cw1) (ws := ws) (m := m) (w := w1) (by omega) (by omega) (r1.ch c (by simp)) (q1.ch c (by simp)) hh hu (Bnd.ch hB c (by simp)))
  have HRI := Lib.hid (fun (w1 : World) (c : Ch [] w0 w1) => R10.Right_any w1 a2 c2 h aw2 m cw2 ws (by omega) (by omega) (r2.ch c (by simp)) (q2.ch c (by simp)) hh hu)
  have HF10 := Lib.hid (fun (w1 : World) (c : Ch [] w0 w1) (hm : may h ws = true) => R10.Form_any w1 a2 c2 h aw2 m cw2 ws (by omega) (by omega) (r2.ch c (by simp)) (q2.ch c (by simp)) hh hu hm)
  have HR10 := Lib.hid (fun (w1 : World) (c : Ch [] w0 w1) (hm : may h ws = true) => R10.Reach_any w1 a2 c2 h aw2 m cw2 ws (by omega) (by omega) (r2.ch c (by simp)) (q2.ch c (by simp)) hh hu hm)
  have HO10 := Lib.hid (fun (w1 : World) (c : Ch [] w0 w1) (hm : may h ws = true) => R10.Order_any w1 a2 c2 h aw2 m cw2 ws (by omega) (by omega) (r2.ch c (by simp)) (q2.ch c (by simp)) hh hu hm)
  unfold ChkPost at CK HCK2
  unfold Mk at HRE HOR
  unfold FormPost at HFO
  unfold R10.Form10 at HF10
  unfold R10.Ord10 at HO10
  have HG := Lib.hid hg
  have HBK := Lib.hid hb
  have l1 := reach_le h ws
  have l2 := met_le h ws
  have l3 := formH_len h ws
  have l4 := formW_len h ws
  rw [hwl] at l4
  have HMAY : Hid (may h ws = true → gErr h ws = 0 ∧ (reach h ws = (order h ws).1 ∧ met h ws = (order h ws).2) ∧ (reach h ws).length = h.length) := Lib.hid (fun hm => ⟨by unfold gErr; rw [if_pos hm], ⟨by unfold reach; rw [if_pos hm], by unfold met; rw [if_pos hm]⟩, reach_len hm⟩)
  have HNOT : Hid (may h ws = false → gErr h ws = 100 ∧ (reach h ws).length = 0 ∧ (met h ws).length = 0 ∧ (formH h ws).length = 0 ∧ (formW h ws).length = 0) := Lib.hid (fun hm => ⟨by unfold gErr; simp [hm], by unfold reach; simp [hm], by unfold met; simp [hm], by unfold formH; simp [hm], by unfold formW; simp [hm]⟩)
  clear hg hb r1 q1 r2 q2 hh hu hB hwl
  generalize checkE h = ce at *
  generalize checkI h = ci at *
  obtain ⟨n, hnl⟩ : ∃ n, n = h.length := ⟨_, rfl⟩
  rw [← hnl] at CK HCK2 HRE HOR HFO HRI HF10 HR10 HO10 HMAY hn l1 l2 l3 ⊢
  clear hnl
  obtain ⟨nb, hnb⟩ : ∃ nb, nb = (reach h ws).length := ⟨_, rfl⟩
  obtain ⟨no, hno⟩ : ∃ no, no = (met h ws).length := ⟨_, rfl⟩
  obtain ⟨nx, hnx⟩ : ∃ nx, nx = (formH h ws).length := ⟨_, rfl⟩
  obtain ⟨ny, hny⟩ : ∃ ny, ny = (formW h ws).length := ⟨_, rfl⟩
  have HNB := Lib.hid hnb
  have HNO := Lib.hid hno
  have HNX := Lib.hid hnx
  have HNY := Lib.hid hny
  rw [← hnb] at HRE HNOT HMAY l1
  rw [← hno] at HOR HNOT l2
  rw [← hnx] at HFO HF10 HNOT l3
  rw [← hny] at HFO HF10 HNOT l4
  clear hnb hno hnx hny
  generalize her : gErr h ws = er at *
  clear her
  go_enter Tryd.func11, Tryd.ntmps11
  go_wp2_with fail
  refine CK.mono ?_
  rintro e w2 ⟨rfl, x2⟩
  have H2 := Lib.hid x2
  have P := HCK2.out w2 (HG.out.ch.trans' x2)
  clear CK x2
  go_wp2_with fail
  refine P.mono ?_
  rintro e w3 ⟨rfl, x3⟩
  have H3 := Lib.hid (H2.out.trans' x3)
  have P := HRE.out w3 (HG.out.ch.trans' H3.out)
  clear x3
  go_wp2_with fail
  refine P.mono ?_
  rintro e w4 ⟨vb, qb, rfl, rb, x4, fb⟩
  obtain ⟨ab, cb, rfl, b1, b2, b3⟩ := Row.rdl2 rb
  obtain ⟨rb', tb, ub⟩ := Row.trimG rb
  have TB := Lib.hid tb
  have UB := Lib.hid (fun y hy => (⟨fb y (ub y hy).1, (ub y hy).2⟩ : w3.heap.size ≤ y ∧ y < w4.heap.size))
  have DB := Lib.hid b3
  have X4 := Lib.hid x4
  have H4 := Lib.hid (H3.out.trans' x4)
  have P := HOR.out w4 (HG.out.ch.trans' H4.out)
  clear rb tb ub x4 fb b3
  go_wp2_with fail
  refine P.mono ?_
  rintro e w5 ⟨vl, ql, rfl, rl, x5, fl⟩
  obtain ⟨al, cl, rfl, o1, o2, o3⟩ := Row.rdl2 rl
  obtain ⟨rl', tl, ul⟩ := Row.trimG rl
  have TL := Lib.hid tl
  have UL := Lib.hid (fun y hy => (⟨fl y (ul y hy).1, (ul y hy).2⟩ : w4.heap.size ≤ y ∧ y < w5.heap.size))
  have DL := Lib.hid o3
  have X5 := Lib.hid x5
  have H5 := Lib.hid (H4.out.trans' x5)
  have P := HFO.out w5 (HG.out.ch.trans' H5.out)
  clear rl tl ul x5 fl o3
  go_wp2_with fail
  refine P.mono ?_
  rintro e w6 ⟨vx, qx, vy, qy, rfl, rx, ry, x6, fx, fy, fd⟩
  obtain ⟨ax, cx, rfl, p1, p2, p3⟩ := Row.rdl2 rx
  obtain ⟨ay, cy, rfl, s1, s2, s3⟩ := Row.rdl2 ry
  obtain ⟨rx', tx, ux⟩ := Row.trimG rx
  obtain ⟨ry', ty, uy⟩ := Row.trimG ry
  have DX := Lib.hid p3
  have DY := Lib.hid s3
  have X6 := Lib.hid x6
  have H6 := Lib.hid (H5.out.trans' x6)
  have hz : ∀ y, w.heap.size ≤ y → O y = 0 := fun y hy => Decidable.byContradiction fun h => by have := HG.out.ow y h; omega
  have z0 := HG.out.ch.size
  have z3 := H3.out.size
  have z4 := X4.out.size
  have z5 := X5.out.size
  have z6 := x6.size
  have PB : Pend w0 w6 O 4 1 (.slice ab nb cb) rb' nb (bv (reach h ws)) := ⟨TB.out.ch (X5.out.trans' x6) (by simp), fun y hy => by have := UB.out y hy; exact ⟨hz y (by omega), by omega, by omega⟩⟩
  have PL : Pend w0 w6 O 3 1 (.slice al no cl) rl' no (nv (met h ws)) := ⟨TL.out.ch x6 (by simp), fun y hy => by have := UL.out y hy; exact ⟨hz y (by omega), by omega, by omega⟩⟩
  have PXX : Pend w0 w6 O 55 4 (.slice ax nx cx) rx' nx (flat (formH h ws)) := ⟨tx, fun y hy => by have h1 := fx y (ux y hy).1; have h2 := (ux y hy).2; exact ⟨hz y (by omega), by omega, by omega⟩⟩
  have PY : Pend w0 w6 O 53 1 (.slice ay ny cy) ry' ny (ints .u64 (formW h ws)) := ⟨ty, fun y hy => by have h1 := fy y (uy y hy).1; have h2 := (uy y hy).2; exact ⟨hz y (by omega), by omega, by omega⟩⟩
  have KB := Lib.hid PB.row
  have KL := Lib.hid PL.row
  have KX := Lib.hid PXX.row
  have KY := Lib.hid PY.row
  have F := four_in (HG.out.step H6.out (by simp)) (HBK.out.ch H6.out) hk PB PL PXX PY (fun y hy hm => by have := UL.out y hy; have := UB.out y hm; omega) (fun y hy hm => by have h1 := fx y (ux y hy).1; have := UB.out y hm; omega) (fun y hy hm => by have h1 := fy y (uy y hy).1; have := UB.out y hm; omega)
    (fun y hy hm => by have h1 := fx y (ux y hy).1; have := UL.out y hm; omega) (fun y hy hm => by have h1 := fy y (uy y hy).1; have := UL.out y hm; omega) (fun y hy hm => fd y (ux y hm).1 (uy y hy).1) (by omega) (by omega) (by omega) (by omega)
  clear PB PL PXX PY rx ry tx ty fx fy fd ux uy x6 p3 s3 hz z0 z3 z4 z5 z6 P
  go_wp2_with fail
  refine F.mono ?_
  rintro e w7 ⟨rfl, F⟩
  go_wp2_with fail
  refine F.mono ?_
  rintro e w8 ⟨rfl, F⟩
  go_wp2_with fail
  refine F.mono ?_
  rintro e w9 ⟨rfl, F⟩
  go_wp2_with fail
  refine F.mono ?_
  rintro e wa ⟨rfl, O', T, g1, g2, g3, g4⟩
  have HGA := Lib.hid g1
  have HBA := Lib.hid g2
  have CA := Lib.hid g1.ch
  have EB : Hid (∀ w', Ch [] wa w' → Hp.Rd w' ab nb (bools (reach h ws))) := Lib.hid (fun w' c => by
    have := ((KB.out.ch g3 (fun y hy hm => (g4 y hm).1 hy)).ch c (by simp)).rd
    obtain ⟨_, _, he, _, _, hr⟩ := this
    simp only [Value.slice.injEq, true_and] at he
    obtain ⟨rfl, rfl⟩ := he
    rwa [Nat.mul_one] at hr)
  have EL : Hid (∀ w', Ch [] wa w' → Hp.Rd w' al no (nv (met h ws))) := Lib.hid (fun w' c => by
    have := ((KL.out.ch g3 (fun y hy hm => (g4 y hm).2.1 hy)).ch c (by simp)).rd
    obtain ⟨_, _, he, _, _, hr⟩ := this
    simp only [Value.slice.injEq, true_and] at he
    obtain ⟨rfl, rfl⟩ := he
    rwa [Nat.mul_one] at hr)
  have EX : Hid (∀ w', Ch [] wa w' → Hp.Rd w' ax (nx * 4) (flat (formH h ws))) := Lib.hid (fun w' c => by
    have := ((KX.out.ch g3 (fun y hy hm => (g4 y hm).2.2.1 hy)).ch c (by simp)).rd
    obtain ⟨_, _, he, _, _, hr⟩ := this
    simp only [Value.slice.injEq, true_and] at he
    obtain ⟨rfl, rfl⟩ := he
    exact hr)
  have EY : Hid (∀ w', Ch [] wa w' → Hp.Rd w' ay ny (ints .u64 (formW h ws))) := Lib.hid (fun w' c => by
    have := ((KY.out.ch g3 (fun y hy hm => (g4 y hm).2.2.2 hy)).ch c (by simp)).rd
    obtain ⟨_, _, he, _, _, hr⟩ := this
    simp only [Value.slice.injEq, true_and] at he
    obtain ⟨rfl, rfl⟩ := he
    rwa [Nat.mul_one] at hr)
  have RI := HRI.out wa CA.out
  clear g1 g2 g3 g4 F HRE HOR HFO HCK2 HRI
  cases hmay : may h ws
  · rw [hmay] at RI
    obtain ⟨e1, e2, e3, e4, e5⟩ := HNOT.out hmay
    rw [e1, e2, e3, e4, e5]
    clear hmay HMAY HNOT HF10 HR10 HO10
    go_wp2_with fail
    refine RI.mono ?_
    rintro e wc ⟨rfl, c⟩
    have Z := Lib.hid (And.intro (HGA.out.step c (by simp)) (HBA.out.ch c))
    clear RI c
    go_wp2_with fail
    go_ret
    exact ⟨by simp, O', Z.out.1, Z.out.2⟩
  · rw [hmay] at RI
    obtain ⟨e1, e2, e3⟩ := HMAY.out hmay
    have HF := Lib.hid (fun w1 c => HF10.out w1 c hmay)
    have HRR := Lib.hid (fun w1 c => HR10.out w1 c hmay)
    have HOO := Lib.hid (fun w1 c => HO10.out w1 c hmay)
    have HE := Lib.hid e2
    have HE3 := Lib.hid e3
    rw [e1]
    clear hmay HMAY HNOT HF10 HR10 HO10 e2 e1 e3
    go_wp2_with fail
    refine RI.mono ?_
    rintro e wc ⟨rfl, cc⟩
    have JC := Lib.hid cc
    have P := HF.out wc (CA.out.trans' cc)
    clear RI cc
    go_wp2_with fail
    refine P.mono ?_
    rintro e wd ⟨vu, qu, vv, qv, rfl, ru, rv, cd⟩
    obtain ⟨au, cu, rfl, u1, u2, u3⟩ := Row.rdl2 ru
    obtain ⟨av, cv, rfl, v1, v2, v3⟩ := Row.rdl2 rv
    have DU := Lib.hid u3
    have DV := Lib.hid v3
    have JD := Lib.hid (JC.out.trans' cd)
    have P := HRR.out wd (CA.out.trans' JD.out)
    clear ru rv cd u3 v3
    go_wp2_with fail
    refine P.mono ?_
    rintro e we ⟨m3, rfl, k1, k2, k3⟩
    have JE := Lib.hid (JD.out.trans' k2)
    have JDE := Lib.hid k2
    have SB := SameBools_any we ab (some ⟨m3, 0, none⟩) nb cb n n (reach h ws) (reach h ws) b1 b2 (Nat.le_refl _) (by unfold maxLen; omega) (EB.out we JE.out) ⟨by rw [show bools (reach h ws) = bv (reach h ws) from rfl]; simp only [bv, List.length_map, ← HNB.out]; exact HE3.out, .inr ⟨m3, 0, rfl, fun j hj => by rw [Nat.zero_add, cell_at k1, ← HE.out.1, List.getElem?_toArray]; rfl⟩⟩
    rw [decide_eq_true rfl] at SB
    clear P k1 k2 k3
    go_wp2_with fail
    refine SB.mono ?_
    rintro e wf ⟨rfl, d, rfl⟩
    have JF : Hid (Ch [] wa (we.drewN d)) := Lib.hid (JE.out.drewN d)
    have JDF : Hid (Ch [] wd (we.drewN d)) := Lib.hid (JDE.out.drewN d)
    clear SB JE
    generalize we.drewN d = wf at *
    have P := HOO.out wf (CA.out.trans' JF.out)
    go_wp2_with fail
    refine P.mono ?_
    rintro e wg ⟨vo, qo, rfl, ro, cg, _⟩
    obtain ⟨ao, co, rfl, t1, t2, t3⟩ := Row.rdl2 ro
    rw [← HE.out.2, Nat.mul_one] at t3
    rw [← HE.out.2] at t1 ⊢
    have JG := Lib.hid (JF.out.trans' cg)
    have JDG := Lib.hid (JDF.out.trans' cg)
    rw [← HNO.out] at t1 t3 ⊢
    have SI := same_nvL wg al ao cl co (met h ws) (by rw [← HNO.out]; exact o1) o2 (by rw [← HNO.out]; exact t1) t2 (by rw [← HNO.out]; exact EL.out wg JG.out) (by rw [← HNO.out]; exact t3)
    rw [← HNO.out] at SI
    clear P ro cg
    go_wp2_with fail
    refine SI.mono ?_
    rintro e wh ⟨rfl, d2, rfl⟩
    have JH : Hid (Ch [] wa (wg.drewN d2)) := Lib.hid (JG.out.drewN d2)
    have JDH : Hid (Ch [] wd (wg.drewN d2)) := Lib.hid (JDG.out.drewN d2)
    clear SI JG t3
    generalize wg.drewN d2 = wh at *
    have SC := SameCells_any wh ax au nx cx nx cu (formH h ws) (formH h ws) (by omega) (by omega) HNX.out.symm HNX.out.symm (EX.out wh JH.out) (DU.out.ch JDH.out)
    rw [decide_eq_true rfl] at SC
    go_wp2_with fail
    refine SC.mono ?_
    rintro e wi ⟨rfl, d3, rfl⟩
    have JI : Hid (Ch [] wa (wh.drewN d3)) := Lib.hid (JH.out.drewN d3)
    have JDI : Hid (Ch [] wd (wh.drewN d3)) := Lib.hid (JDH.out.drewN d3)
    clear SC JH
    generalize wh.drewN d3 = wi at *
    have dv := DV.out
    rw [Nat.mul_one] at dv
    have SW := SameWords_any wi ay av ny cy ny cv (formW h ws) (formW h ws) s1 s2 v1 v2 (EY.out wi JI.out) (dv.ch JDI.out)
    rw [decide_eq_true rfl] at SW
    clear dv
    go_wp2_with fail
    refine SW.mono ?_
    rintro e wj ⟨rfl, d4, rfl⟩
    have JJ : Hid (Ch [] wa (wi.drewN d4)) := Lib.hid (JI.out.drewN d4)
    have Z := Lib.hid (And.intro (HGA.out.step JJ.out (by simp)) (HBA.out.ch JJ.out))
    clear SW
    go_wp2_with fail
    go_ret
    exact ⟨by simp, O', Z.out.1, Z.out.2⟩
end Go.Proofs.YtggijcebobjghaaDoor.L10
