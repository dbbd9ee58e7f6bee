/-
  THE LAW BarrierAlone.
-/
import Derived.Test.YtlhhcocdhkbdnaaDoorLaw13n
import Derived.Deep.DeepCutAuto
import Derived.Deep.CutBlock
set_option linter.unusedVariables false
set_option linter.unusedSimpArgs false
set_option maxRecDepth 100000
namespace Go.Proofs.YtlhhcocdhkbdnaaDoor.L13
open Go.RowKit Go.Proofs.YtlhhcocdhkbdnaaDoor.Wd Go.Proofs.YtlhhcocdhkbdnaaDoor.Hp Go.Proofs.YtlhhcocdhkbdnaaDoor.Gp Go.Proofs.YtlhhcocdhkbdnaaDoor.Sm Go.Proofs.YtlhhcocdhkbdnaaDoor.Gr Go.Proofs.YtlhhcocdhkbdnaaDoor.Bp
/-- Does a word name a cell that is white, and not free? -/
def wR (h : List Cel) (a : Int) : Bool := isRef a && (decide ((cellN a).toNat < h.length) && whiteC (h.getD (cellN a).toNat z))
theorem shade_one (h : List Cel) (a : Int) : shadeL h [a] = if wR h a then [(cellN a).toNat] else [] := by
  unfold shadeL wR
  simp only [List.foldl_cons, List.foldl_nil]
  unfold shade1
  simp only [List.contains_nil, Bool.not_false, Bool.and_true, List.nil_append]
theorem shade_two (h : List Cel) (a b : Int) : shadeL h [a, b] = if wR h a then (if wR h b && !((cellN b).toNat == (cellN a).toNat) then [(cellN a).toNat, (cellN b).toNat] else [(cellN a).toNat]) else (if wR h b then [(cellN b).toNat] else []) := by
  have : shadeL h [a, b] = shade1 h (shadeL h [a]) b := shadeL_snoc h [a] b
  rw [this, shade_one]
  unfold shade1
  cases hA : wR h a
  · simp only [Bool.false_eq_true, if_false, List.contains_nil, Bool.not_false, Bool.and_true, List.nil_append]
    rfl
  · simp only [if_true]
    have e : ([(cellN a).toNat].contains (cellN b).toNat) = ((cellN b).toNat == (cellN a).toNat) := by rw [Bool.eq_iff_iff]; simp
    rw [e]
    unfold wR
    cases isRef b <;> simp [Bool.and_assoc]
/-- What the law asks of two lists. -/
structure Al (h : List Cel) (a b : Int) (one two : List Nat) : Prop where
  how : (wR h a = false ∧ one = [] ∧ ((wR h b = false ∧ two = []) ∨ (wR h b = true ∧ two = [(cellN b).toNat]))) ∨ (wR h a = true ∧ one = [(cellN a).toNat] ∧ (two = [(cellN a).toNat] ∨ (wR h b = true ∧ (cellN b).toNat ≠ (cellN a).toNat ∧ two = [(cellN a).toNat, (cellN b).toNat])))
theorem al_on {h : List Cel} {p a b : Int} (ho : onP p = true) : Al h a b (storeL p true a b h) (storeL p false a b h) := by
  unfold storeL
  rw [ho]
  simp only [if_true, Bool.false_eq_true, if_false]
  rw [shade_one, shade_two]
  constructor
  cases hA : wR h a
  · left
    cases hB : wR h b <;> simp
  · right
    cases hB : wR h b
    · simp
    · by_cases e : (cellN b).toNat = (cellN a).toNat
      · simp [e]
      · simp [e]
theorem wR_ok {h : List Cel} {a : Int} (hw : wR h a = true) : isRef a = true ∧ (cellN a).toNat < h.length ∧ (h.getD (cellN a).toNat z).k ≠ 0 ∧ (h.getD (cellN a).toNat z).c = 0 := by
  unfold wR whiteC at hw
  simp only [Bool.and_eq_true, decide_eq_true_eq, bne_iff_ne, beq_iff_eq] at hw
  exact ⟨hw.1, hw.2.1, hw.2.2.1, hw.2.2.2⟩
/-- Each one that is told: its cell, and which word names it. -/
theorem Al.each {h : List Cel} {a b : Int} {one two : List Nat} (hl : Al h a b one two) : ∀ c ∈ two, c < h.length ∧ (h.getD c z).k ≠ 0 ∧ (h.getD c z).c = 0 ∧ ((isRef a = true ∧ cellN a = c) ∨ (isRef b = true ∧ cellN b = c)) := by
  have ra := cellN_range a
  have rb := cellN_range b
  intro c hc
  have key : ∀ x : Int, 0 ≤ cellN x → wR h x = true → c = (cellN x).toNat → c < h.length ∧ (h.getD c z).k ≠ 0 ∧ (h.getD c z).c = 0 ∧ (isRef x = true ∧ cellN x = c) := fun x h0 hw e => by
    obtain ⟨w1, w2, w3, w4⟩ := wR_ok hw
    subst e
    exact ⟨w2, w3, w4, w1, by omega⟩
  rcases hl.how with ⟨h1, h2, ⟨h3, h4⟩ | ⟨h3, h4⟩⟩ | ⟨h1, h2, h3 | ⟨h3, h4, h5⟩⟩
  · rw [h4] at hc; cases hc
  · rw [h4] at hc; simp at hc
    obtain ⟨k1, k2, k3, k4⟩ := key b rb.1 h3 hc
    exact ⟨k1, k2, k3, .inr k4⟩
  · rw [h3] at hc; simp at hc
    obtain ⟨k1, k2, k3, k4⟩ := key a ra.1 h1 hc
    exact ⟨k1, k2, k3, .inl k4⟩
  · rw [h5] at hc; simp at hc
    rcases hc with hc | hc
    · obtain ⟨k1, k2, k3, k4⟩ := key a ra.1 h1 hc
      exact ⟨k1, k2, k3, .inl k4⟩
    · obtain ⟨k1, k2, k3, k4⟩ := key b rb.1 h3 hc
      exact ⟨k1, k2, k3, .inr k4⟩
theorem al_off {h : List Cel} {p a b : Int} (ho : onP p = false) (s : Bool) : storeL p s a b h = [] := by unfold storeL; rw [ho]; rfl
theorem fill_two {h : List Cel} {p a b : Int} : fillL p false a b h = storeL p false a b h := by unfold fillL storeL; cases onP p <;> simp
theorem fill_none {h : List Cel} {p a b : Int} : fillL p true a b h = [] := by unfold fillL; cases onP p <;> simp
theorem nv_inj (l : List Nat) : nv l = ints .i64 (l.map (fun (c : Nat) => (c : Int))) := by simp [nv, ints]
set_option maxHeartbeats 4000000 in
theorem BarrierAlone_any (w : World) (p : Int) (sc : Bool) (a b : Int) (ao : Option Addr) (cap : Nat) (h : List Cel) (hr : RdF w ao (h.length * 4) (flat h) []) (hh : ∀ x ∈ h, InR x) (ha : Gp.u64 a) (hb' : Gp.u64 b) (hb : Bnd w) (hmx : h.length ≤ maxLen) :
    Calls Tryd.prog 10 #[.agg #[.int .u8 p, .bool sc, .int .u64 a, .int .u64 b, .slice ao h.length cap]] w fun e w' => e = .returned (.bool true) ∧ Ch [] w w' := by
  by_cases hbig : 20000 < h.length
  · have C0 := Lib.hid ((Ch.refl [] w).alloc (.cells #[.int .u8 p, .bool sc, .int .u64 a, .int .u64 b, .slice ao h.length cap] 27))
    have hbI : (20000 : Int) < (h.length : Int) := by omega
    unfold maxLen at hmx
    clear hr hh ha hb' hb hbig
    generalize h.length = n at *
    go_enter Tryd.func10, Tryd.ntmps10
    go_wp2_with fail
    go_ret
    exact ⟨rfl, C0.out⟩
  · have hsm : h.length ≤ 20000 := by omega
    clear hbig hmx
    obtain ⟨W, hW⟩ : ∃ W, W = w.alloc (.cells #[.int .u8 p, .bool sc, .int .u64 a, .int .u64 b, .slice ao h.length cap] 27) := ⟨_, rfl⟩
    have C0 : Ch [] w W := by rw [hW]; exact (Ch.refl _ _).alloc _
    have hbx : W.heap[w.heap.size]? = some (.cells #[.int .u8 p, .bool sc, .int .u64 a, .int .u64 b, .slice ao h.length cap] 27 (0, 0)) := by rw [hW]; exact heap_new w _
    have K := known_any W (Bnd.ch hb C0 (by simp))
    have HBX := Lib.hid hbx
    have HC0 := Lib.hid C0
    have HR := Lib.hid hr
    have HH := Lib.hid hh
    have HS := Lib.hid (fun (w1 : World) (h1 : Ch [] w w1) (s : Bool) => Bp.Store_any w1 ao cap h p s a b (by omega) (hr.ch h1 (by simp)) hh ha hb' (Bnd.ch hb h1 (by simp)))
    have HFL := Lib.hid (fun (w1 : World) (h1 : Ch [] w w1) (s : Bool) => Bp.Fill_any w1 ao cap h p s a b (by omega) (hr.ch h1 (by simp)) hh ha hb' (Bnd.ch hb h1 (by simp)))
    have CA := Lib.hid (fun w1 => Rd.Cell_any w1 a ha.1 ha.2)
    have CB := Lib.hid (fun w1 => Rd.Cell_any w1 b hb'.1 hb'.2)
    have ra := cellN_range a
    have rb := cellN_range b
    clear hr hh ha hb' hb hbx C0
    obtain ⟨n, hn⟩ : ∃ n, n = h.length := ⟨_, rfl⟩
    have HN := Lib.hid hn
    rw [← hn] at hW hsm HBX HS HFL ⊢
    clear hn
    go_enter Tryd.func10, Tryd.ntmps10
    have k4 := cell_at (i := 4) HBX.out
    simp only [List.getElem?_toArray, List.getElem?_cons_zero, List.getElem?_cons_succ] at k4
    go_wp2_with fail
    rw [← hW]
    clear hW k4
    refine K.mono ?_
    rintro e w2 ⟨rfl, h2⟩
    have H2 := Lib.hid (HC0.out.trans' h2)
    have hh2 := h2.heap HBX.out (by simp)
    have k0 := cell_at (i := 0) hh2
    have k2 := cell_at (i := 2) hh2
    have k3 := cell_at (i := 3) hh2
    have k4 := cell_at (i := 4) hh2
    simp only [List.getElem?_toArray, List.getElem?_cons_zero, List.getElem?_cons_succ] at k0 k2 k3 k4
    have S1 := HS.out w2 H2.out true
    unfold Mk1 at S1
    clear K h2 hh2
    go_wp2_with fail
    refine S1.mono ?_
    rintro e w3 ⟨v3, q3, rfl, g1, g2, _⟩
    obtain ⟨a1, c1, rfl, x1, x2, x3⟩ := Row.rdl g1
    have R1 := Lib.hid x3
    have H3 := Lib.hid (H2.out.trans' g2)
    have S2 := HS.out w3 H3.out false
    unfold Mk1 at S2
    clear S1 g1 g2 x3 k0 k2 k3 k4
    go_wp2_with fail
    refine S2.mono ?_
    rintro e w4 ⟨v4, q4, rfl, g1, g2, _⟩
    obtain ⟨a2, c2, rfl, y1, y2, y3⟩ := Row.rdl g1
    have R2 := Lib.hid y3
    have X4 := Lib.hid g2
    have H4 := Lib.hid (H3.out.trans' g2)
    have F1 := HFL.out w4 H4.out false
    rw [fill_two] at F1
    unfold Mk1 at F1
    clear S2 g1 g2 y3
    go_wp2_with fail
    refine F1.mono ?_
    rintro e w5 ⟨v5, q5, rfl, g1, g2, _⟩
    obtain ⟨a3, c3, rfl, z1, z2, z3⟩ := Row.rdl g1
    have R3 := Lib.hid z3
    have X5 := Lib.hid g2
    have H5 := Lib.hid (H4.out.trans' g2)
    have F2 := HFL.out w5 H5.out true
    rw [fill_none] at F2
    unfold Mk1 at F2
    clear F1 g1 g2 z3
    go_wp2_with fail
    refine F2.mono ?_
    rintro e w6 ⟨v6, q6, rfl, g1, g2, _⟩
    obtain ⟨a4, c4, rfl, _⟩ := Row.rdl g1
    have X6 := Lib.hid g2
    have H6 := Lib.hid (H5.out.trans' g2)
    clear F2 g1 g2
    have Q := SameInts_any w6 a2 a3 _ c2 _ c3 ((storeL p false a b h).map (fun (c : Nat) => (c : Int))) ((storeL p false a b h).map (fun (c : Nat) => (c : Int))) y1 y2 z1 z2 (by rw [← nv_inj]; exact R2.out.ch (X5.out.trans' X6.out)) (by rw [← nv_inj]; exact R3.out.ch X6.out)
    simp only [decide_true] at Q
    have HA1 : Hid (∀ w', Ch [] w6 w' → Rd w' a1 (storeL p true a b h).length (nv (storeL p true a b h))) := Lib.hid (fun w' hc => R1.out.ch (((X4.out.trans' X5.out).trans' X6.out).trans' hc))
    have HA2 : Hid (∀ w', Ch [] w6 w' → Rd w' a2 (storeL p false a b h).length (nv (storeL p false a b h))) := Lib.hid (fun w' hc => R2.out.ch ((X5.out.trans' X6.out).trans' hc))
    generalize hone : storeL p true a b h = one at *
    generalize htwo : storeL p false a b h = two at *
    have HON : Hid (onP p = true → Al h a b one two) := Lib.hid (fun ho => by rw [← hone, ← htwo]; exact al_on ho)
    have HOF : Hid (onP p = false → one = [] ∧ two = []) := Lib.hid (fun ho => by rw [← hone, ← htwo]; exact ⟨al_off ho _, al_off ho _⟩)
    clear hone htwo R1 R2 R3 X4 X5 X6 HS HFL H2 H3 H4 H5
    have hlen : one.length ≤ 1 ∧ two.length ≤ 2 ∧ one.length ≤ two.length ∧ (two.length = 2 → two.getD 0 0 ≠ two.getD 1 0) := by
      cases ho : onP p
      · obtain ⟨e1, e2⟩ := HOF.out ho
        rw [e1, e2]; simp
      · rcases (HON.out ho).how with ⟨_, e1, ⟨_, e2⟩ | ⟨_, e2⟩⟩ | ⟨_, e1, e2 | ⟨_, hne, e2⟩⟩
        · rw [e1, e2]; simp
        · rw [e1, e2]; simp
        · rw [e1, e2]; simp
        · rw [e1, e2]; simp; exact Ne.symm hne
    obtain ⟨hl1, hl2, hl3, hl4⟩ := hlen
    have HL4 := Lib.hid hl4
    generalize hk1 : one.length = k1 at *
    generalize hk2 : two.length = k2 at *
    have HK1 := Lib.hid hk1
    have HK2 := Lib.hid hk2
    clear hk1 hk2 hl4
    go_wp2_with fail
    refine Q.mono ?_
    rintro e w7 ⟨rfl, d, rfl⟩
    have X7 : Hid (Ch [] w6 (w6.drewN d)) := Lib.hid ((Ch.refl _ _).drewN d)
    generalize w6.drewN d = w7 at *
    clear Q
    go_upto_region 14 with fail
    go_cut [95] (fun t wx => t = .bool false ∧ ∃ d, wx = w7.drewN d)
    case first => as_aux_lemma =>
      have hk : (k1 = 0 ∧ k2 = 0) ∨ (k1 = 0 ∧ k2 = 1) ∨ (k1 = 1 ∧ k2 = 1) ∨ (k1 = 0 ∧ k2 = 2) ∨ (k1 = 1 ∧ k2 = 2) := by omega
      clear hl1 hl2 hl3
      rcases hk with ⟨rfl, rfl⟩ | ⟨rfl, rfl⟩ | ⟨rfl, rfl⟩ | ⟨rfl, rfl⟩ | ⟨rfl, rfl⟩
      iterate 3
        · go_wp2_with fail
          go_quiet (fail)
          go_wp2_with fail
          go_meet
          case rel => exact ⟨rfl, _, rfl⟩
      all_goals
        obtain ⟨bb, off, rfl, hj⟩ := (HA2.out w7 X7.out).2.resolve_left (by omega)
        have b0 : w7.cell? ⟨bb, off, none⟩ = some (.int .i64 (two.getD 0 0)) := (hj 0 (by omega)).trans (nv_at _ _ (by rw [HK2.out]; omega))
        have b1 := (hj 1 (by omega)).trans (nv_at _ _ (by rw [HK2.out]; omega))
        have hne := HL4.out (by first | rfl | trivial)
        generalize two.getD 0 0 = t0 at *
        generalize two.getD 1 0 = t1 at *
        have hneI : ((t0 : Int) == (t1 : Int)) = false := by rw [beq_eq_false_iff_ne]; omega
        clear hj hne
        go_wp2_with fail
        go_quiet (fail)
        go_wp2_with fail
        go_meet
        case rel => exact ⟨rfl, _, rfl⟩
    case rest => as_aux_lemma =>
      obtain ⟨rfl, d2, rfl⟩ := hcut
      have X8 : Hid (Ch [] w6 (w7.drewN d2)) := Lib.hid (X7.out.drewN d2)
      generalize w7.drewN d2 = w8 at *
      clear X7
      cases ho : onP p
      · obtain ⟨e1, e2⟩ := HOF.out ho
        have hk2 : k2 = 0 := by rw [← HK2.out, e2]; rfl
        subst hk2
        have hp1 : (p != 1) = true := by unfold onP at ho; simp at ho; simp; omega
        have hp2 : (p != 2) = true := by unfold onP at ho; simp at ho; simp; omega
        clear ho e1 e2 hl1 hl2 hl3
        go_wp2_with fail
        go_ret
        exact ⟨rfl, H6.out.trans' X8.out⟩
      · have hp : p = 1 ∨ p = 2 := by unfold onP at ho; simpa using ho
        have HAL := Lib.hid (HON.out ho)
        clear ho HON HOF
        go_upto_region 16 with fail
        go_cut [101] (fun t wx => t = .bool false ∧ wx = w8)
        case first => as_aux_lemma =>
          rcases hp with rfl | rfl
          all_goals
            go_wp2_with fail
            go_meet
            case rel => exact ⟨rfl, rfl⟩
        case rest => as_aux_lemma =>
          obtain ⟨rfl, rfl⟩ := hcut
          clear hp
          have QA := CA.out wc
          have QB := CB.out
          have hwr : ∀ t, t < 4 → (cellN a).toNat < n → ∃ bh offh, ao = some ⟨bh, offh, none⟩ ∧ wc.cell? ⟨bh, offh + ((cellN a).toNat * 4 + t), none⟩ = (celV (h.getD (cellN a).toNat z))[t]? := fun t ht hlt => by
            have hch : (cellN a).toNat < h.length := by rw [← HN.out]; exact hlt
            obtain ⟨bh, offh, e, _, hjh⟩ := HR.out.2.resolve_left (by omega)
            refine ⟨bh, offh, e, ?_⟩
            have h3 := (hjh ((cellN a).toNat * 4 + t) (by omega)).trans (flat_get h _ t hch ht)
            rw [List.getElem?_eq_getElem (by simp [celV]; omega)] at h3 ⊢
            exact (H6.out.trans' X8.out).cell h3 (by simp)
          have HWR := Lib.hid hwr
          have HWD : Hid (wR h a = (isRef a && (decide ((cellN a).toNat < n) && whiteC (h.getD (cellN a).toNat z)))) := Lib.hid (by unfold wR; rw [HN.out])
          obtain ⟨xa, hxa⟩ : ∃ xa : Nat, cellN a = xa := ⟨(cellN a).toNat, by omega⟩
          have HXA := Lib.hid hxa
          clear hwr
          rw [hxa] at QA HWR HWD
          rw [Int.toNat_natCast] at HWR HWD
          clear hxa ra
          generalize hra : isRef a = ira at *
          have HIRA := Lib.hid hra
          clear hra
          go_wp2_with fail
          refine QA.mono ?_
          rintro e w9 ⟨rfl, rfl⟩
          clear QA
          go_upto_region 19 with fail
          go_cut [16] (fun t wx => t = .bool (wR h a) ∧ wx = w9)
          case first => as_aux_lemma =>
            cases ira
            · go_wp2_with fail
              go_meet
              case rel => exact ⟨by rw [HWD.out]; rfl, rfl⟩
            · by_cases hxn : xa < n
              · obtain ⟨bh, offh, rfl, d0⟩ := HWR.out 0 (by omega) hxn
                obtain ⟨bh', offh', he, d1⟩ := HWR.out 1 (by omega) hxn
                simp only [Option.some.injEq, Addr.mk.injEq, and_true] at he
                obtain ⟨rfl, rfl⟩ := he
                have hxI : (xa : Int) < n := by omega
                have HWE : Hid (wR h a = whiteC (h.getD xa z)) := Lib.hid (by rw [HWD.out]; simp [hxn])
                clear hxn
                generalize h.getD xa z = y at *
                obtain ⟨yk, yc, ya, yb⟩ := y
                simp only [celV, List.getElem?_cons_zero, List.getElem?_cons_succ, Nat.add_zero, ← Nat.add_assoc] at d0 d1
                unfold whiteC at HWE
                simp only at HWE
                by_cases k0 : yk = 0
                · subst k0
                  go_wp2_with fail
                  go_meet
                  case rel => exact ⟨by rw [HWE.out]; rfl, rfl⟩
                · have k0' : (yk != 0) = true := by simpa using k0
                  clear k0
                  go_wp2_with fail
                  go_meet
                  case rel => exact ⟨by rw [HWE.out, k0']; simp, rfl⟩
              · have hxI : ¬ (xa : Int) < n := by omega
                have HWE : Hid (wR h a = false) := Lib.hid (by rw [HWD.out]; simp [hxn])
                clear hxn
                go_wp2_with fail
                go_meet
                case rel => exact ⟨by rw [HWE.out], rfl⟩
          case rest => as_aux_lemma =>
            obtain ⟨rfl, rfl⟩ := hcut
            have hhow : (wR h a = false ∧ k1 = 0) ∨ (wR h a = true ∧ k1 = 1 ∧ 1 ≤ k2 ∧ one.getD 0 0 = xa ∧ two.getD 0 0 = xa) := by
              have e : (cellN a).toNat = xa := by rw [HXA.out]; omega
              rcases HAL.out.how with ⟨e0, e1, _⟩ | ⟨e0, e1, e2 | ⟨_, _, e2⟩⟩
              · left; exact ⟨e0, by rw [← HK1.out, e1]; rfl⟩
              · right; exact ⟨e0, by rw [← HK1.out, e1]; rfl, by rw [← HK2.out, e2]; simp, by rw [e1, e]; rfl, by rw [e2, e]; rfl⟩
              · right; exact ⟨e0, by rw [← HK1.out, e1]; rfl, by rw [← HK2.out, e2]; simp, by rw [e1, e]; rfl, by rw [e2, e]; rfl⟩
            have HEACH := Lib.hid HAL.out.each
            clear HAL HWR HWD
            generalize wR h a = whites at *
            go_upto_region 20 with fail
            go_cut [157] (fun t wx => t = .bool false ∧ wx = wc)
            case first => as_aux_lemma =>
              rcases hhow with ⟨rfl, rfl⟩ | ⟨rfl, rfl, h1, h2, h3⟩
              · go_wp2_with fail
                go_meet
                case rel => exact ⟨rfl, rfl⟩
              · obtain ⟨b1, off1, rfl, hj1⟩ := (HA1.out wc X8.out).2.resolve_left (by omega)
                obtain ⟨b2, off2, rfl, hj2⟩ := (HA2.out wc X8.out).2.resolve_left (by omega)
                have d1 : wc.cell? ⟨b1, off1, none⟩ = some (.int .i64 xa) := (hj1 0 (by omega)).trans ((nv_at _ _ (by rw [HK1.out]; omega)).trans (by rw [h2]))
                have d2 : wc.cell? ⟨b2, off2, none⟩ = some (.int .i64 xa) := (hj2 0 (by omega)).trans ((nv_at _ _ (by rw [HK2.out]; omega)).trans (by rw [h3]))
                have hk2I : (0 : Int) < (k2 : Int) := by omega
                clear hj1 hj2 h2 h3
                go_wp2_with fail
                go_meet
                case rel => exact ⟨rfl, rfl⟩
            case rest => as_aux_lemma =>
              obtain ⟨rfl, rfl⟩ := hcut
              have HJ : Hid (∀ j, j < k2 → ∃ (c b2 off2 bh offh : Nat) (kk : Int), a2 = some ⟨b2, off2, none⟩ ∧ wc.cell? ⟨b2, off2 + j, none⟩ = some (.int .i64 c) ∧ c < n ∧ ao = some ⟨bh, offh, none⟩ ∧ wc.cell? ⟨bh, offh + c * 4, none⟩ = some (.int .u8 kk) ∧ kk ≠ 0 ∧ wc.cell? ⟨bh, offh + c * 4 + 1, none⟩ = some (.int .u8 0) ∧ ((ira = true ∧ (xa : Int) = c) ∨ (isRef b = true ∧ cellN b = c))) := Lib.hid (fun j hj => by
                have hjl : j < two.length := by rw [HK2.out]; exact hj
                obtain ⟨b2, off2, e2, hj2⟩ := (HA2.out wc X8.out).2.resolve_left (by omega)
                have d1 := (hj2 j hj).trans (nv_at _ _ hjl)
                have hm : two.getD j 0 ∈ two := by rw [show two.getD j 0 = two[j] by simp [List.getD, hjl]]; exact List.getElem_mem hjl
                obtain ⟨c1, c2, c3, c4⟩ := HEACH.out _ hm
                generalize two.getD j 0 = c at *
                obtain ⟨bh, offh, eh, _, hjh⟩ := HR.out.2.resolve_left (by omega)
                have hA : ∀ t, t < 4 → wc.cell? ⟨bh, offh + (c * 4 + t), none⟩ = (celV (h.getD c z))[t]? := fun t ht => by
                  have h3 := (hjh (c * 4 + t) (by omega)).trans (flat_get h c t c1 ht)
                  rw [List.getElem?_eq_getElem (by simp [celV]; omega)] at h3 ⊢
                  exact (H6.out.trans' X8.out).cell h3 (by simp)
                have g0 := hA 0 (by omega)
                have g1 := hA 1 (by omega)
                generalize h.getD c z = y at *
                obtain ⟨yk, yc, ya, yb⟩ := y
                simp only at c2 c3
                simp only [celV, List.getElem?_cons_zero, List.getElem?_cons_succ, Nat.add_zero, ← Nat.add_assoc] at g0 g1
                refine ⟨c, b2, off2, bh, offh, yk, e2, d1, by rw [HN.out]; exact c1, eh, g0, c2, by rw [g1, c3], ?_⟩
                rw [HIRA.out, HXA.out] at c4
                exact c4)
              have HEND : Hid (Ch [] w wc) := Lib.hid (H6.out.trans' X8.out)
              have QB1 := QB wc
              clear HEACH hhow HA1 HA2 HK1 HK2 HL4 HN HXA HIRA CA CB QB HR HH HBX HC0 X8 H6
              generalize isRef b = irb at *
              generalize cellN b = xb at *
              go_wp2_with fail
              go_loopw [17] (fun i wr => ∃ j : Nat, j ≤ k2 ∧ i = .int .i64 j ∧ wr = wc) (fun i _ => k2 - (intOf i).toNat)
              case atStart => exact ⟨0, by omega, rfl, rfl⟩
              case round => as_aux_lemma =>
                obtain ⟨j, hj, rfl, hwe⟩ := hrel
                subst hwe
                by_cases hlt : j < k2
                · have ltJ : (j : Int) < k2 := by omega
                  obtain ⟨c, b2, off2, bh, offh, kk, rfl, d1, hcn, rfl, d2, hk, d3, hor⟩ := HJ.out j hlt
                  have hcI : (c : Int) < n := by omega
                  have hcI' : ¬ ((n : Int) ≤ c) := by omega
                  have hc0 : ¬ ((c : Int) < 0) := by omega
                  have hkb : (kk == 0) = false := by simpa using hk
                  clear hcn
                  by_cases hx : ira = true ∧ (xa : Int) = c
                  · obtain ⟨rfl, hx⟩ := hx
                    rw [← hx] at d1 hcI hcI' hc0
                    have hxn : c = xa := by omega
                    subst hxn
                    clear hx hor
                    go_wp2_with fail
                    refine QB1.mono ?_
                    rintro e wq ⟨rfl, rfl⟩
                    go_wp2_with fail
                    go_roundw
                    case rel => exact ⟨j + 1, by omega, by go_num, by first | rfl | trivial⟩
                    case measure => simp [intOf]; omega
                  · obtain ⟨rfl, rfl⟩ := hor.resolve_left hx
                    clear hor
                    cases ira
                    · clear hx
                      go_wp2_with fail
                      refine QB1.mono ?_
                      rintro e wq ⟨rfl, rfl⟩
                      go_wp2_with fail
                      go_roundw
                      case rel => exact ⟨j + 1, by omega, by go_num, by first | rfl | trivial⟩
                      case measure => simp [intOf]; omega
                    · have hne : ((c : Int) == (xa : Int)) = false := by rw [beq_eq_false_iff_ne]; intro h; exact hx ⟨rfl, h.symm⟩
                      clear hx
                      go_wp2_with fail
                      refine QB1.mono ?_
                      rintro e wq ⟨rfl, rfl⟩
                      go_wp2_with fail
                      go_roundw
                      case rel => exact ⟨j + 1, by omega, by go_num, by first | rfl | trivial⟩
                      case measure => simp [intOf]; omega
                · have ltJ : ¬ (j : Int) < k2 := by omega
                  go_wp2_with fail
                  go_ret
                  exact ⟨rfl, HEND.out⟩
end Go.Proofs.YtlhhcocdhkbdnaaDoor.L13
