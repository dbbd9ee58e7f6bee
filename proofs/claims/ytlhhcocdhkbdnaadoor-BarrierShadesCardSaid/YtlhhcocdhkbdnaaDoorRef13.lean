/-
  CHAPTER 13's reference: Shades, Store, Fill.
-/
import Derived.Test.YtlhhcocdhkbdnaaDoorLaw13n
set_option linter.unusedVariables false
set_option linter.unusedSimpArgs false
set_option maxRecDepth 100000
namespace Go.Proofs.YtlhhcocdhkbdnaaDoor.L13
open Go.RowKit Go.Proofs.YtlhhcocdhkbdnaaDoor.Wd Go.Proofs.YtlhhcocdhkbdnaaDoor.Hp Go.Proofs.YtlhhcocdhkbdnaaDoor.Gp Go.Proofs.YtlhhcocdhkbdnaaDoor.Sm Go.Proofs.YtlhhcocdhkbdnaaDoor.Gr Go.Proofs.YtlhhcocdhkbdnaaDoor.Bp
theorem contains_take (L : List Nat) (i c : Nat) (h : i < L.length) : (L.take (i + 1)).contains c = ((L.take i).contains c || c == L.getD i 0) := by
  rw [take_snoc L i 0 h, Bool.eq_iff_iff]; simp
set_option maxHeartbeats 2000000 in
theorem Shades_any (w : World) (ao : Option Addr) (cap : Nat) (h : List Cel) (aw : Option Addr) (m cw : Nat) (ws : List Int) (hn : h.length ≤ 1000000) (hm : m ≤ 1000000) (hr : RdF w ao (h.length * 4) (flat h) []) (hrw : RdF w aw m (ints .u64 ws) []) (hu : ∀ v ∈ ws, Gp.u64 v) :
    Calls Tryd.prog 41 #[.slice ao h.length cap, .slice aw m cw] w (Mk1 3 (nv (shadeL h ws)) (shadeL h ws).length w) := by
  have hwl : ws.length = m := by simpa [ints] using hrw.1
  obtain ⟨i1, hi1, he1⟩ := Option.map_eq_some_iff.1 infoInt
  simp only [Prod.mk.injEq] at he1
  obtain ⟨hy0, hy1, hy2⟩ := he1
  have HR := Lib.hid hr
  have HRW := Lib.hid hrw
  have HU := Lib.hid hu
  have HWL := Lib.hid hwl
  obtain ⟨n, hnl⟩ : ∃ n, n = h.length := ⟨_, rfl⟩
  have HN := Lib.hid hnl
  rw [← hnl] at hn ⊢
  clear hr hrw hu hwl hnl
  go_enter Tryd.func41, Tryd.ntmps41
  go_wp2_with fail
  go_loopw [6, 5] (fun i o wr => ∃ (k : Nat) (qs : List Nat), i = .int .i64 k ∧ k ≤ m ∧ Row wr 3 1 o qs (shadeL h (ws.take k)).length (nv (shadeL h (ws.take k))) ∧ Ch [] w wr ∧ ∀ q ∈ qs, w.heap.size ≤ q) (fun i _ _ => m - (intOf i).toNat)
  case atStart => exact ⟨0, [], rfl, by omega, Row.nil _ _ _ _, Ch.refl _ _, by simp⟩
  case round =>
    obtain ⟨k, qs, rfl, hk, hrow, hc, hq⟩ := hrel
    by_cases hlt : k < m
    · have hkl : k < ws.length := by rw [HWL.out]; exact hlt
      obtain ⟨x, hx⟩ : ∃ x, x = ws.getD k 0 := ⟨_, rfl⟩
      have hxm : x ∈ ws := by rw [hx, show ws.getD k 0 = ws[k] by simp [List.getD, hkl]]; exact List.getElem_mem hkl
      have hxu := HU.out x hxm
      obtain ⟨b, off, rfl, hbn, hj⟩ := HRW.out.2.resolve_left (by omega)
      have a1 := hc.cell ((hj k hlt).trans ((ints_get hkl).trans (by rw [← hx]))) (by simp)
      have CC := Rd.Cell_any wr x hxu.1 hxu.2
      have hrg := cellN_range x
      have TK : Hid (shadeL h (ws.take (k + 1)) = shade1 h (shadeL h (ws.take k)) x) := Lib.hid (by rw [take_snoc ws k 0 hkl, ← hx, shadeL_snoc])
      have hle := shadeL_len h (ws.take k)
      rw [List.length_take] at hle
      have ltI : (k : Int) < m := by omega
      have HRO := Lib.hid hrow
      have HC := Lib.hid hc
      have HQ := Lib.hid hq
      obtain ⟨ax, cx, rfl, x1, x2, x3⟩ := hrow.rd
      rw [Nat.mul_one] at x3
      have HX := Lib.hid x3
      have hLn : (shadeL h (ws.take k)).length ≤ 1000000 := by omega
      clear hj hbn hrow hc hq x3 hx hxm hxu hkl hle
      generalize hL : shadeL h (ws.take k) = L at *
      have HL := Lib.hid hL
      clear hL
      generalize hnL : L.length = nL at *
      have HNL := Lib.hid hnL
      clear hnL
      unfold shade1 at TK
      cases href : isRef x
      · rw [href] at CC TK
        simp only [Bool.false_and, Bool.false_eq_true, if_false] at TK
        clear href hrg
        generalize cellN x = cv at *
        go_wp2_with fail
        refine CC.mono ?_
        rintro e w2 ⟨rfl, rfl⟩
        go_wp2_with fail
        go_roundw
        case rel => exact ⟨k + 1, qs, by go_num, by omega, by rw [TK.out, HNL.out]; exact HRO.out, HC.out, HQ.out⟩
        case measure => simp [intOf]; omega
      · rw [href] at CC TK
        obtain ⟨c, hcc⟩ : ∃ c : Nat, c = (cellN x).toNat := ⟨_, rfl⟩
        have hcv : cellN x = (c : Int) := by omega
        rw [← hcc] at TK
        rw [hcv] at CC
        simp only [Bool.true_and] at TK
        clear href hrg hcc hcv
        by_cases hcn : c < n
        · have hch : c < h.length := by rw [← HN.out]; exact hcn
          obtain ⟨bh, offh, rfl, hbhn, hjh⟩ := HR.out.2.resolve_left (by omega)
          have hA : ∀ t, t < 4 → wr.cell? ⟨bh, offh + (c * 4 + t), none⟩ = (celV (h.getD c z))[t]? := fun t ht => by
            have h3 := (hjh (c * 4 + t) (by omega)).trans (flat_get h c t hch ht)
            rw [List.getElem?_eq_getElem (by simp [celV]; omega)] at h3 ⊢
            exact HC.out.cell h3 (by simp)
          have b0 := hA 0 (by omega)
          have b1 := hA 1 (by omega)
          rw [← HN.out, decide_eq_true hcn, Bool.true_and] at TK
          generalize h.getD c z = y at *
          obtain ⟨ck, cc, ca, cb⟩ := y
          simp only [celV, List.getElem?_cons_zero, List.getElem?_cons_succ, Nat.add_zero, ← Nat.add_assoc] at b0 b1
          have ltC : (c : Int) < n := by omega
          clear hA hjh hbhn hch hcn
          unfold whiteC at TK
          simp only at TK
          by_cases k0 : ck = 0
          · subst k0
            simp only [bne_self_eq_false, Bool.false_and, Bool.false_eq_true, if_false] at TK
            go_wp2_with fail
            refine CC.mono ?_
            rintro e w2 ⟨rfl, rfl⟩
            clear CC
            go_wp2_with fail
            go_roundw
            case rel => exact ⟨k + 1, qs, by go_num, by omega, by rw [TK.out, HNL.out]; exact HRO.out, HC.out, HQ.out⟩
            case measure => simp [intOf]; omega
          · have k0' : (ck != 0) = true := by simpa using k0
            have k0b : (ck == 0) = false := by simpa using k0
            rw [k0', Bool.true_and] at TK
            by_cases c0 : cc = 0
            · subst c0
              simp only [beq_self_eq_true, Bool.true_and] at TK
              clear k0'
              go_wp2_with fail
              refine CC.mono ?_
              rintro e w2 ⟨rfl, rfl⟩
              clear CC
              go_wp2_with fail
              clear b0 b1 a1
              go_loopw [10, 9] (fun j t wx => ∃ i : Nat, i ≤ nL ∧ j = .int .i64 i ∧ t = .bool ((L.take i).contains c) ∧ wx = w2) (fun j _ _ => nL - (intOf j).toNat)
              case atStart => exact ⟨0, by omega, rfl, rfl, by first | rfl | trivial⟩
              case round =>
                obtain ⟨i, hi, rfl, rfl, hwe⟩ := hrel
                have hwf := hwe.symm
                clear hwe
                subst hwf
                by_cases hil : i < nL
                · have hil' : i < L.length := by rw [HNL.out]; exact hil
                  obtain ⟨bx, ox, rfl, hjx⟩ := HX.out.2.resolve_left (by omega)
                  have d1 := (hjx i hil).trans (nv_at _ _ hil')
                  have TI : Hid _ := Lib.hid (contains_take L i c hil')
                  have ltX : (i : Int) < nL := by omega
                  generalize L.getD i 0 = d at *
                  clear hjx hil'
                  cases ht : (L.take i).contains c
                  · rw [ht, Bool.false_or] at TI
                    by_cases e : d = c
                    · subst e
                      rw [beq_self_eq_true] at TI
                      clear ht
                      go_wp2_with fail
                      go_roundw
                      case rel => exact ⟨i + 1, by omega, by go_num, by rw [TI.out], by first | rfl | trivial⟩
                      case measure => simp [intOf]; omega
                    · have e1 : ((d : Int) == (c : Int)) = false := by rw [beq_eq_false_iff_ne]; omega
                      rw [show (c == d) = false by rw [beq_eq_false_iff_ne]; omega] at TI
                      clear ht e
                      go_wp2_with fail
                      go_roundw
                      case rel => exact ⟨i + 1, by omega, by go_num, by rw [TI.out], by first | rfl | trivial⟩
                      case measure => simp [intOf]; omega
                  · rw [ht, Bool.true_or] at TI
                    clear ht
                    go_wp2_with fail
                    go_roundw
                    case rel => exact ⟨i + 1, by omega, by go_num, by rw [TI.out], by first | rfl | trivial⟩
                    case measure => simp [intOf]; omega
                · have hie : i = nL := by omega
                  have et : L.take i = L := List.take_of_length_le (by rw [HNL.out]; omega)
                  rw [et]
                  clear et
                  have ltX : ¬ (i : Int) < nL := by omega
                  cases hct : L.contains c
                  · rw [hct] at TK
                    simp only [Bool.not_false, if_true] at TK
                    clear hct
                    have CAB := Lib.hid ((Ch.refl [] w2).alloc (.cells #[.int .i64 c] 3))
                    have HR1 := Lib.hid (HRO.out.ch CAB.out (by simp))
                    have HN1 := Lib.hid (newL (w := w2) (b := w2.heap.size) rfl [.int .i64 c] 3)
                    go_wp2_with (at_builtin; go_loud (refine wpList_append_row _ rfl _ _ 50 rfl 3 i1 _ 1 8 Tryd.underlying50 hi1 hy0 hy1 hy2 rfl (by decide) rfl HR1.out ⟨w2.heap.size, 0, none⟩ 1 1 [.int .i64 c] rfl rfl HN1.out (one1 _ _) (by unfold maxLen; omega) (by omega) ?_))
                    intro v' w5 qs' hr4 hc4 hq4
                    have HR4 := Lib.hid hr4
                    have HC4 := Lib.hid hc4
                    have HQ4 := Lib.hid hq4
                    obtain ⟨ao4, cap4, rfl, _⟩ := hr4.rd
                    clear hr4 hc4 hq4
                    go_wp2_with fail
                    go_roundw
                    case rel =>
                      refine ⟨k + 1, qs', by go_num, by omega, by rw [TK.out, List.length_append, HNL.out, nv_snoc]; exact HR4.out, (HC.out.trans' CAB.out).trans HC4.out (fun x hx => .inr (HQ.out x hx)), fun q hq => ?_⟩
                      have s1 := CAB.out.size
                      have s3 := HC.out.size
                      rcases HQ4.out with e | ⟨q', e, h3, h4⟩
                      · rw [e] at hq; exact HQ.out q hq
                      · rw [e] at hq; simp at hq; subst hq; omega
                    case measure => simp [intOf]; omega
                  · rw [hct] at TK
                    simp only [Bool.not_true, Bool.false_eq_true, if_false] at TK
                    clear hct
                    go_wp2_with fail
                    go_roundw
                    case rel => exact ⟨k + 1, qs, by go_num, by omega, by rw [TK.out, HNL.out]; exact HRO.out, HC.out, HQ.out⟩
                    case measure => simp [intOf]; omega
            · have c0' : (cc == 0) = false := by simpa using c0
              have c0'' : (cc != 0) = true := by simpa using c0
              rw [c0', Bool.false_and] at TK
              simp only [Bool.false_eq_true, if_false] at TK
              clear k0'
              go_wp2_with fail
              refine CC.mono ?_
              rintro e w2 ⟨rfl, rfl⟩
              clear CC
              go_wp2_with fail
              go_roundw
              case rel => exact ⟨k + 1, qs, by go_num, by omega, by rw [TK.out, HNL.out]; exact HRO.out, HC.out, HQ.out⟩
              case measure => simp [intOf]; omega
        · rw [← HN.out, decide_eq_false hcn, Bool.false_and] at TK
          simp only [Bool.false_eq_true, if_false] at TK
          have ltC : ¬ (c : Int) < n := by omega
          clear hcn
          go_wp2_with fail
          refine CC.mono ?_
          rintro e w2 ⟨rfl, rfl⟩
          clear CC
          go_wp2_with fail
          go_roundw
          case rel => exact ⟨k + 1, qs, by go_num, by omega, by rw [TK.out, HNL.out]; exact HRO.out, HC.out, HQ.out⟩
          case measure => simp [intOf]; omega
    · obtain rfl : k = m := by omega
      have e1 : ws.take k = ws := List.take_of_length_le (by rw [HWL.out]; exact Nat.le_refl _)
      rw [e1] at hrow
      obtain ⟨ax, cx, rfl, _⟩ := hrow.rd
      have Z : Hid (Mk1 3 (nv (shadeL h ws)) (shadeL h ws).length w (.returned (.slice ax (shadeL h ws).length cx)) _) := Lib.hid ⟨_, qs, rfl, hrow, hc, hq⟩
      clear hrow hc hq
      generalize Mk1 3 (nv (shadeL h ws)) (shadeL h ws).length w = R at *
      generalize (shadeL h ws).length = len at *
      go_wp2_with fail
      exact Z.out
theorem rdF_of {w : World} {ao : Option Addr} {m : Nat} {xs : List Value} (h : Hp.Rd w ao m xs) : RdF w ao m xs [] := ⟨h.1, h.2.imp id fun ⟨b, off, e, hj⟩ => ⟨b, off, e, by simp, hj⟩⟩
theorem rd_new (w : World) (arr : Array Value) (t : TypeId) (xs : List Value) (b : Nat) (hb : b = w.heap.size) (m : Nat) (hm : xs.length = m) (hx : ∀ j, j < m → arr[j]? = xs[j]?) : Hp.Rd ((w.alloc (.cells arr t)).drewN 1) (some ⟨b, 0, none⟩) m xs := by
  subst hb
  exact ⟨hm, .inr ⟨_, 0, rfl, fun j hj => by rw [Nat.zero_add]; exact (cell_at (i := j) (heap_new w _)).trans (hx j hj)⟩⟩
theorem row_one (w : World) (a : Int) (o : Obj) : Row ((w.alloc (.cells #[.int .u64 a] 24)).alloc o) 24 1 (.slice (some ⟨w.heap.size, 0, none⟩) 1 1) [w.heap.size] 1 (ints .u64 [a]) :=
  ⟨rfl, _, _, rfl, by omega, by simp [maxLen], by simp, .inr ⟨w.heap.size, 0, _, by simp, rfl, heap_old (heap_new w _), by simp, fun j hj => by simp [ints]⟩⟩
section
variable (w : World) (ao : Option Addr) (cap : Nat) (h : List Cel) (p : Int) (s : Bool) (a b : Int)
theorem Store13_any (hn : h.length ≤ 1000000) (hr : RdF w ao (h.length * 4) (flat h) []) (hh : ∀ x ∈ h, InR x) (ha : Gp.u64 a) (hb : Gp.u64 b) (hB : Bnd w) :
    Calls Tryd.prog 16 #[.int .u8 p, .bool s, .int .u64 a, .int .u64 b, .slice ao h.length cap] w (Mk1 3 (nv (storeL p s a b h)) (storeL p s a b h).length w) := by
  have ON := on13_any w p
  have C1 : Ch [] w (w.alloc (.cells #[.int .u64 a] 24)) := (Ch.refl _ _).alloc _
  have S1 := Shades_any _ ao cap h (some ⟨w.heap.size, 0, none⟩) 1 1 [a] hn (by omega) (hr.ch C1 (by simp)) (one_rd w a) (by simpa using ha)
  have HS := Lib.hid (fun (w5 : World) (h5 : Ch [] w w5) (a5 : Option Addr) (c5 : Nat) (r5 : Hp.Rd w5 a5 2 (ints .u64 [a] ++ [.int .u64 b])) => Shades_any w5 ao cap h a5 2 c5 [a, b] hn (by omega) (hr.ch h5 (by simp)) (rdF_of r5) (by simpa using ⟨ha, hb⟩))
  have HC1 := Lib.hid C1
  have HN := Lib.hid (Mk1.nil 3 w w (Ch.refl _ _))
  unfold storeL
  clear hr hh ha hb hB C1 hn
  cases ho : onP p
  · rw [ho] at ON
    clear ho
    simp only [Bool.false_eq_true, if_false]
    generalize hR : Mk1 3 (nv []) ([] : List Nat).length w = R
    have HR := Lib.hid hR
    clear hR S1
    go_enter Tryd.func16, Tryd.ntmps16
    go_wp2_with fail
    refine ON.mono ?_
    rintro e w2 ⟨rfl, rfl⟩
    go_wp2_with fail
    rw [← HR.out]
    exact HN.out
  · rw [ho] at ON
    clear ho
    simp only [if_true]
    cases s
    · simp only [Bool.false_eq_true, if_false]
      generalize hR : Mk1 3 (nv (shadeL h [a, b])) (shadeL h [a, b]).length w = R
      have HR := Lib.hid hR
      clear hR S1
      obtain ⟨iw, hiw, hew⟩ := Option.map_eq_some_iff.1 infoWord
      simp only [Prod.mk.injEq] at hew
      obtain ⟨hw0, hw1, hw2⟩ := hew
      have CAB := Lib.hid (HC1.out.alloc (.cells #[.int .u64 b] 24))
      have HRW := Lib.hid (row_one w a (.cells #[.int .u64 b] 24))
      have HN1 := Lib.hid (newL (w := w.alloc (.cells #[.int .u64 a] 24)) (b := (w.alloc (.cells #[.int .u64 a] 24)).heap.size) rfl [.int .u64 b] 24)
      go_enter Tryd.func16, Tryd.ntmps16
      go_wp2_with fail
      refine ON.mono ?_
      rintro e w2 ⟨rfl, rfl⟩
      go_wp2_with fail
      have C5 := (HC1.out.alloc (.cells #[.int .u64 b] 24)).alloc (.cells (#[.int .u64 a, .int .u64 b] ++ Builtin.zeroCells #[Value.int IntKind.u64 0] ((Question.appendCap 2 1 24).cut (w2.tape w2.drawn (Question.appendCap 2 1 24)) - 2)) 24)
      have C6 := C5.drewN 1
      have HC5 := Lib.hid C6
      have S5 := HS.out _ C6 (some ⟨w2.heap.size + 1 + 1, 0, none⟩) ((Question.appendCap 2 1 24).cut (w2.tape w2.drawn (Question.appendCap 2 1 24))) (rd_new _ _ _ _ _ (by simp [World.size_alloc]) 2 rfl (fun j hj => by
        rw [Array.getElem?_append_left (by simpa using hj)]
        rcases (show j = 0 ∨ j = 1 by omega) with rfl | rfl <;> rfl))
      clear C5 C6
      refine S5.mono ?_
      rintro e w3 hm
      have Z := hm.ch HC5.out
      obtain ⟨v, qs, rfl, g1, g2, g3⟩ := hm
      clear g1 g2 g3
      go_wp2_with fail
      rw [← HR.out]
      exact Z
    · simp only [if_true]
      have HM := Lib.hid (fun en w' (hm : Mk1 3 (nv (shadeL h [a])) (shadeL h [a]).length _ en w') => hm.ch HC1.out)
      generalize hR : Mk1 3 (nv (shadeL h [a])) (shadeL h [a]).length w = R
      have HR := Lib.hid hR
      clear hR
      go_enter Tryd.func16, Tryd.ntmps16
      go_wp2_with fail
      refine ON.mono ?_
      rintro e w2 ⟨rfl, rfl⟩
      go_wp2_with fail
      refine S1.mono ?_
      rintro e w3 hm
      have Z := HM.out _ _ hm
      obtain ⟨v, qs, rfl, g1, g2, g3⟩ := hm
      clear g1 g2 g3
      go_wp2_with fail
      rw [← HR.out]
      exact Z
theorem Fill13_any (hn : h.length ≤ 1000000) (hr : RdF w ao (h.length * 4) (flat h) []) (hh : ∀ x ∈ h, InR x) (ha : Gp.u64 a) (hb : Gp.u64 b) (hB : Bnd w) :
    Calls Tryd.prog 17 #[.int .u8 p, .bool s, .int .u64 a, .int .u64 b, .slice ao h.length cap] w (Mk1 3 (nv (fillL p s a b h)) (fillL p s a b h).length w) := by
  have ON := on13_any w p
  have C2 : Ch [] w (w.alloc (.cells #[.int .u64 a, .int .u64 b] 24)) := (Ch.refl _ _).alloc _
  have S2 := Shades_any _ ao cap h (some ⟨w.heap.size, 0, none⟩) 2 2 [a, b] hn (by omega) (hr.ch C2 (by simp)) (two_rd w a b) (by simpa using ⟨ha, hb⟩)
  have HC2 := Lib.hid C2
  have HN := Lib.hid (Mk1.nil 3 w w (Ch.refl _ _))
  unfold fillL
  clear hr hh ha hb hB C2 hn
  cases ho : onP p
  · rw [ho] at ON
    clear ho
    simp only [Bool.false_and, Bool.false_eq_true, if_false]
    generalize hR : Mk1 3 (nv []) ([] : List Nat).length w = R
    have HR := Lib.hid hR
    clear hR S2
    go_enter Tryd.func17, Tryd.ntmps17
    go_wp2_with fail
    refine ON.mono ?_
    rintro e w2 ⟨rfl, rfl⟩
    go_wp2_with fail
    rw [← HR.out]
    exact HN.out
  · rw [ho] at ON
    clear ho
    cases s
    · simp only [Bool.not_false, Bool.and_true, if_true]
      have HM := Lib.hid (fun en w' (hm : Mk1 3 (nv (shadeL h [a, b])) (shadeL h [a, b]).length _ en w') => hm.ch HC2.out)
      generalize hR : Mk1 3 (nv (shadeL h [a, b])) (shadeL h [a, b]).length w = R
      have HR := Lib.hid hR
      clear hR
      go_enter Tryd.func17, Tryd.ntmps17
      go_wp2_with fail
      refine ON.mono ?_
      rintro e w2 ⟨rfl, rfl⟩
      go_wp2_with fail
      refine S2.mono ?_
      rintro e w3 hm
      have Z := HM.out _ _ hm
      obtain ⟨v, qs, rfl, g1, g2, g3⟩ := hm
      clear g1 g2 g3
      go_wp2_with fail
      rw [← HR.out]
      exact Z
    · simp only [Bool.not_true, Bool.and_false, Bool.false_eq_true, if_false]
      generalize hR : Mk1 3 (nv []) ([] : List Nat).length w = R
      have HR := Lib.hid hR
      clear hR S2
      go_enter Tryd.func17, Tryd.ntmps17
      go_wp2_with fail
      refine ON.mono ?_
      rintro e w2 ⟨rfl, rfl⟩
      go_wp2_with fail
      rw [← HR.out]
      exact HN.out
end
end Go.Proofs.YtlhhcocdhkbdnaaDoor.L13
