/-
  THE WALK of dappleref10.Path.
-/
import Derived.Test.YtggijcebobjghaaDoorQRef10q
import Derived.BigRegion
set_option linter.unusedVariables false
set_option linter.unusedSimpArgs false
set_option maxRecDepth 100000
namespace Go.Proofs.YtggijcebobjghaaDoor.Rp
open Go.RowKit Go.Proofs.YtggijcebobjghaaDoor.Wd Go.Proofs.YtggijcebobjghaaDoor.Hp Go.Proofs.YtggijcebobjghaaDoor.Gr Go.Proofs.YtggijcebobjghaaDoor.Gp Go.Proofs.YtggijcebobjghaaDoor.Sm Go.Proofs.YtggijcebobjghaaDoor.Bf Go.Proofs.YtggijcebobjghaaDoor.Pa
theorem nv_iv (P : List Nat) : nv P = iv (P.map (fun (c : Nat) => (c : Int))) := by simp [nv, iv]
/-- What Path answers. -/
def Path10 (h : List Cel) (ws : List Int) (to : Int) (w : World) (e : Ending) (w' : World) : Prop :=
  ∃ (v : Value) (qs : List Nat), e = .returned (.tuple #[v, .bool (pathIs h ws to)]) ∧ Row w' 3 1 v qs (pathR h ws to).length (iv (pathR h ws to)) ∧ Ch [] w w' ∧ ∀ q ∈ qs, w.heap.size ≤ q
set_option maxHeartbeats 8000000 in
theorem Path_any (w : World) (ao : Option Addr) (cap : Nat) (h : List Cel) (to : Nat) (aw : Option Addr) (m cw : Nat) (ws : List Int) (hn : h.length ≤ 1000000) (hm : m ≤ 1000000) (hto : to < h.length)
    (hr : RdF w ao (h.length * 4) (flat h) []) (hrw : RdF w aw m (ints .u64 ws) []) (hh : ∀ x ∈ h, InR x) (hu : ∀ v ∈ ws, Gp.u64 v) (hmay : may h ws = true) :
    Calls Tryd.prog 20 #[.slice ao h.length cap, .int .i64 to, .slice aw m cw] w (Path10 h ws to w) := by
  have K := far_any w ao cap h aw m cw ws hn hm hr hrw hh hu hmay
  have HNM : Hid (∀ (W : World) (c k : Nat), Ch [] w W → c < h.length → Calls Tryd.prog 68 #[.slice ao h.length cap, .int .i64 c, .int .i64 k] W fun e w' => e = .returned (.bool (nm h c k)) ∧ w' = W) := Lib.hid (fun W c k cw hc => names_any W ao cap h c k hn hc (hr.ch cw (by simp)) hh)
  have AO := all_ok hmay
  have hal := AO.len
  have hbd := AO.bnd to
  have HBD := Lib.hid AO.bnd
  obtain ⟨q, hq⟩ : ∃ q, q = (all h ws).getD to 0 := ⟨_, rfl⟩
  have HPR := Lib.hid (path_ref hmay hto hq.symm)
  rw [← hq] at hbd
  have HQ := Lib.hid hq
  obtain ⟨A, hA⟩ : ∃ A, A = all h ws := ⟨_, rfl⟩
  rw [← hA] at K HPR hal HQ HBD
  have HAL := Lib.hid hal
  obtain ⟨n, hnl⟩ : ∃ n, n = h.length := ⟨_, rfl⟩
  have HN := Lib.hid hnl
  rw [← hnl] at K HNM hn hto hbd HAL HBD ⊢
  clear hr hrw hh hu hmay AO hal hnl hA hq
  go_enter Tryd.func20, Tryd.ntmps20
  go_wp2_with fail
  refine K.mono ?_
  rintro e w2 ⟨ab, rfl, g1, g2⟩
  have HA := Lib.hid g1
  have H2 := Lib.hid g2
  have a1 := cell_at (i := to) g1
  rw [List.getElem?_toArray, nv_at _ _ (by rw [HAL.out]; exact hto), ← HQ.out] at a1
  have ltT : (to : Int) < n := by omega
  clear K g1 g2
  by_cases hq0 : q = 0
  · as_aux_lemma =>
    subst hq0
    obtain ⟨e1, e2⟩ := HPR.out.1 rfl
    go_wp2_with fail
    go_ret2
    exact ⟨.slice none 0 0, [], by rw [e1]; rfl, by rw [e2]; exact Row.nil _ _ _ _, H2.out, by simp⟩
  obtain ⟨e1, P, e2, hP⟩ := HPR.out.2 (by omega)
  have HE1 := Lib.hid e1
  have HE2 := Lib.hid e2
  have HP := Lib.hid hP
  have hqI : ((q : Int) == 0) = false := by simp; omega
  have hqp : 0 < q := by omega
  have HQP := Lib.hid hqp
  have hmk := Own.run_make_lists w2 q (by omega)
  have T0 : Hid (TB (w2.alloc (.cells (Array.replicate q (.slice none 0 0)) 68)) w2.heap.size q n (canK h A to q) 0 (fun _ => 0)) := Lib.hid ⟨⟨_, heap_new _ _, by simp, by intro j hj; omega⟩, by intro j hj; omega, by intro j k _ hk; omega, by intro j hj; omega, by omega⟩
  have C0 : Hid (Ch [] w2 (w2.alloc (.cells (Array.replicate q (.slice none 0 0)) 68))) := Lib.hid ((Ch.refl _ _).alloc _)
  obtain ⟨cb, hcb⟩ : ∃ cb, cb = w2.heap.size := ⟨_, rfl⟩
  rw [← hcb] at hmk T0
  have HCB := Lib.hid hcb
  have HQ0 := Lib.hid hq0
  clear HPR e1 e2 hP hqp hcb hq0
  go_wp2_with fail
  clear hmk hqI
  generalize w2.alloc (.cells (Array.replicate q (.slice none 0 0)) 68) = w3 at *
  go_loopw [11] (fun i wr => ∃ (ii : Int) (t : Nat) (R : Nat → Nat), i = .int .i64 ii ∧ ii + t + 1 = q ∧ t ≤ q ∧ TB wr cb q n (canK h A to q) t R ∧ Ch [] w2 wr) (fun i _ => (intOf i + 1).toNat)
  case atStart => exact ⟨(q : Int) - 1, 0, _, rfl, by omega, by omega, T0.out, C0.out⟩
  case round =>
    obtain ⟨ii, t, R, rfl, hit, htq, htb, hc⟩ := hrel
    by_cases hlt : t < q
    · as_aux_lemma =>
      obtain ⟨i, hi⟩ : ∃ i : Nat, (i : Int) = ii := ⟨ii.toNat, by omega⟩
      subst hi
      have hi0 : ¬ ((i : Int) < 0) := by omega
      have hiq : i + t + 1 = q := by omega
      have ltI : (i : Int) < q := by omega
      have hmk := run_make_bools wr n (by omega)
      obtain ⟨arr, t1, t2, t3⟩ := htb.tab
      have f0 := free_at (i := i) (heap_old (o' := .cells (bv (List.replicate n false)).toArray 4) t1)
      have c0 := cell_at (i := i) (heap_old (o' := .cells (bv (List.replicate n false)).toArray 4) t1)
      obtain ⟨u, hu⟩ : ∃ u, arr[i]? = some u := ⟨_, Array.getElem?_eq_getElem (by omega)⟩
      rw [hu] at c0
      have G := htb.grow (List.replicate n false) hlt
      rw [show q - 1 - t = i by omega] at G
      have hwb := lt_of t1
      have HCG := Lib.hid ((hc.alloc (.cells (bv (List.replicate n false)).toArray 4)).setCell ⟨cb, i, none⟩ (.slice (some ⟨wr.heap.size, 0, none⟩) n n) (.inr (by have := HCB.out; show w2.heap.size ≤ cb; omega)))
      obtain ⟨rb, hrb⟩ : ∃ rb, rb = wr.heap.size := ⟨_, rfl⟩
      have hrw2 : w2.heap.size ≤ rb := by rw [hrb]; exact hc.size
      rw [← hrb] at G HCG hmk
      have HRB := Lib.hid hrw2
      generalize hR' : (fun j => if j = t then rb else R j) = R' at G
      have hRt : R' t = rb := by rw [← hR']; simp
      have HG := Lib.hid G
      have HRT := Lib.hid hRt
      have HI := Lib.hid hiq
      clear t1 t2 t3 hu G hR' hRt htb hc hwb hrb hrw2 T0 C0 a1
      go_wp2_with fail
      clear hmk f0 c0
      generalize (wr.alloc (.cells (bv (List.replicate n false)).toArray 4)).setCell ⟨cb, i, none⟩ (.slice (some ⟨rb, 0, none⟩) n n) = w4 at *
      have S0 : Hid (TB w4 cb q n (fun j => if j = t then partL (canK h A to q t) n 0 else canK h A to q j) (t + 1) R') := Lib.hid (by rw [partL_zero]; exact HG.out)
      clear HG
      go_loopw [12] (fun v wr => ∃ (c : Nat), v = .int .i64 c ∧ c ≤ n ∧ TB wr cb q n (fun j => if j = t then partL (canK h A to q t) n c else canK h A to q j) (t + 1) R' ∧ Ch [] w2 wr) (fun v _ => n - (intOf v).toNat)
      case atStart => exact ⟨0, rfl, by omega, S0.out, HCG.out⟩
      case round =>
        obtain ⟨c, rfl, hcn, htb, hc⟩ := hrel
        clear S0 HCG
        by_cases hlc : c < n
        · as_aux_lemma =>
          have ltC : (c : Int) < n := by omega
          have hcl : c < h.length := by rw [← HN.out]; exact hlc
          have r0 := htb.at_ (j := t) (i := i) (by omega) (by omega)
          rw [HRT.out] at r0
          have HTB := Lib.hid htb
          have HC := Lib.hid hc
          by_cases ht0 : t = 0
          · as_aux_lemma =>
            subst ht0
            have hq1 : (q : Int) - 1 = i := by omega
            have b0 := htb.bit (j := 0) (c := c) (by omega) (by rw [if_pos rfl, partL_len _ _ _ (by rw [canK_len, HN.out]) (by omega)]; exact hlc)
            have f0 := htb.free (j := 0) (c := c) (by omega)
            rw [HRT.out] at b0 f0
            have hcc : ((c : Int) == (to : Int)) = decide (c = to) := by
              rw [Bool.eq_iff_iff, decide_eq_true_eq, beq_iff_eq]; omega
            have HNX : Hid (∀ W, TB W cb q n (fun j => if j = 0 then (if (0 : Nat) = 0 then partL (canK h A to q 0) n c else canK h A to q 0).set c (decide (c = to)) else (if j = 0 then partL (canK h A to q 0) n c else canK h A to q j)) (0 + 1) R' → TB W cb q n (fun j => if j = 0 then partL (canK h A to q 0) n (c + 1) else canK h A to q j) (0 + 1) R') := Lib.hid (fun W hW => hW.congr (fun j hj => by
              obtain rfl : j = 0 := by omega
              simp only [if_true]
              rw [← partL_set _ _ _ (by rw [canK_len, HN.out]) hlc]
              congr 1
              rw [canK, map_at _ _ _ hcl]))
            have HST := Lib.hid (fun b : Bool => htb.set (t := 0) c b)
            rw [HRT.out] at HST
            clear htb hc hcn
            go_wp2_with fail
            go_roundw
            case rel =>
              refine ⟨c + 1, by go_num, by omega, HNX.out _ ?_, HC.out.setCell _ _ (.inr HRB.out)⟩
              have := HST.out (decide (c = to))
              first | exact this | (rw [← hcc] at this; exact this) | simpa [hcc] using this
            case measure => simp [intOf]; omega
          · as_aux_lemma =>
            obtain ⟨t', rfl⟩ : ∃ t', t = t' + 1 := ⟨t - 1, by omega⟩
            have hq1 : ((i : Int) == (q : Int) - 1) = false := by simp; omega
            have hq2 : ¬ ((i : Int) = (q : Int) - 1) := by omega
            obtain ⟨i1, hi1⟩ : ∃ i1, i1 = i + 1 := ⟨_, rfl⟩
            have hi1I : (i : Int) + 1 = (i1 : Int) := by omega
            have ltI1 : (i1 : Int) < q := by omega
            have HI1 := Lib.hid hi1
            have hb1 := HBD.out c
            have ac := cell_at (i := c) (hc.heap HA.out (by simp))
            rw [List.getElem?_toArray, nv_at _ _ (by rw [HAL.out]; exact hlc)] at ac
            obtain ⟨y, hy⟩ : ∃ y, y = A.getD c 0 := ⟨_, rfl⟩
            rw [← hy] at ac hb1
            have HY := Lib.hid hy
            have S1 : Hid (TB wr cb q n (fun j => if j = t' + 1 then midL h A to q t' c 0 else canK h A to q j) (t' + 1 + 1) R') := Lib.hid (by rw [midL_zero _ _ _ _ _ _ hcl, ← HN.out]; exact htb)
            clear htb hc hcn hi1 hy ht0 r0
            go_wp2_with fail
            go_loopw [13] (fun v wr => ∃ (k : Nat), v = .int .i64 k ∧ k ≤ n ∧ (k = 0 ∨ y = i1) ∧ TB wr cb q n (fun j => if j = t' + 1 then midL h A to q t' c k else canK h A to q j) (t' + 1 + 1) R' ∧ Ch [] w2 wr) (fun v _ => n - (intOf v).toNat)
            case atStart => exact ⟨0, rfl, by omega, .inl rfl, S1.out, HC.out⟩
            case round =>
              clear S1 HTB HC
              obtain ⟨k, rfl, hkn, hky, htb, hc⟩ := hrel
              by_cases hlk : k < n
              · by_cases hyi : y = i1
                · as_aux_lemma =>
                  have ltK : (k : Int) < n := by omega
                  have hyI : ((y : Int) == (i1 : Int)) = true := by simp; omega
                  have ac := cell_at (i := c) (hc.heap HA.out (by simp))
                  rw [List.getElem?_toArray, nv_at _ _ (by rw [HAL.out]; exact hlc), ← HY.out] at ac
                  have hkl : k < h.length := by rw [← HN.out]; exact hlk
                  have r0 := htb.at_ (j := t' + 1) (i := i) (by omega) (by omega)
                  have r1 := htb.at_ (j := t') (i := i1) (by omega) (by have := HI1.out; omega)
                  rw [HRT.out] at r0
                  have b1 := htb.bit (j := t') (c := k) (by omega) (by rw [if_neg (by omega), canK_len, ← HN.out]; exact hlk)
                  rw [if_neg (by omega)] at b1
                  have b2 := htb.bit (j := t' + 1) (c := c) (by omega) (by rw [if_pos rfl, midL_len _ _ _ _ _ _ _ hcl, ← HN.out]; exact hlc)
                  rw [if_pos rfl, midL_at _ _ _ _ _ _ _ hcl, HRT.out] at b2
                  have f2 := htb.free (j := t' + 1) (c := c) (by omega)
                  rw [HRT.out] at f2
                  have NMC := HNM.out wr c k (H2.out.trans' hc) hlc
                  have HNX := Lib.hid (anyC_next h (canK h A to q t') c k)
                  have HMS := Lib.hid (midL_set h A to q t' c k)
                  have HST := Lib.hid (fun b : Bool => htb.set (t := t' + 1) c b)
                  rw [HRT.out] at HST
                  have HC := Lib.hid hc
                  have HFIN : Hid (∀ (W : World) (b : Bool), b = anyC h (canK h A to q t') c (k + 1) → TB W cb q n (fun j => if j = t' + 1 then (if t' + 1 = t' + 1 then midL h A to q t' c k else canK h A to q (t' + 1)).set c b else (if j = t' + 1 then midL h A to q t' c k else canK h A to q j)) (t' + 1 + 1) R' → TB W cb q n (fun j => if j = t' + 1 then midL h A to q t' c (k + 1) else canK h A to q j) (t' + 1 + 1) R') := Lib.hid (fun W b hb hW => hW.congr (fun j hj => by
                    by_cases e : j = t' + 1
                    · rw [if_pos e, if_pos rfl, if_pos e, hb, HMS.out]
                    · rw [if_neg e, if_neg e, if_neg e]))
                  generalize (canK h A to q t').getD k false = bk at *
                  generalize hcur : anyC h (canK h A to q t') c k = cur at *
                  generalize nm h c k = nmv at *
                  generalize R' t' = rb1 at *
                  have HYI := Lib.hid hyi
                  clear htb hc hkn hky hcur hyi
                  cases bk
                  · cases cur
                    all_goals
                      go_wp2_with fail
                      go_region
                      all_goals
                        go_wp2_with fail
                        go_roundw
                        case rel => exact ⟨k + 1, by go_num, by omega, .inr HYI.out, HFIN.out _ _ (by rw [HNX.out]; rfl) (TB.ch (HST.out _) (Ch.refl _ _).drew), (HC.out.setCell _ _ (.inr HRB.out)).drew⟩
                        case measure => simp [intOf]; omega
                  · cases cur
                    all_goals
                      go_wp2_with fail
                      refine NMC.mono ?_
                      rintro e w9 ⟨rfl, rfl⟩
                      go_wp2_with fail
                      go_region
                      all_goals
                        go_wp2_with fail
                        go_roundw
                        case rel => exact ⟨k + 1, by go_num, by omega, .inr HYI.out, HFIN.out _ _ (by rw [HNX.out]; simp) (TB.ch (HST.out _) (Ch.refl _ _).drew), (HC.out.setCell _ _ (.inr HRB.out)).drew⟩
                        case measure => simp [intOf]; omega
                · as_aux_lemma =>
                  obtain rfl : k = 0 := hky.resolve_right hyi
                  have ltK : ((0 : Nat) : Int) < n := by omega
                  have ac := cell_at (i := c) (hc.heap HA.out (by simp))
                  rw [List.getElem?_toArray, nv_at _ _ (by rw [HAL.out]; exact hlc), ← HY.out] at ac
                  have hyI : ((y : Int) == (i1 : Int)) = false := by simp; omega
                  have HFIN : Hid (TB wr cb q n (fun j => if j = t' + 1 then partL (canK h A to q (t' + 1)) n (c + 1) else canK h A to q j) (t' + 1 + 1) R') := Lib.hid (by
                    have := midL_none h A to q t' c hcl (by rw [← HY.out]; have := HI1.out; omega)
                    rw [← HN.out] at this
                    rw [← this]; exact htb)
                  have HC := Lib.hid hc
                  clear htb hc hkn hky hlk hyi
                  go_wp2_with fail
                  go_roundw
                  case rel => exact ⟨c + 1, by go_num, by omega, HFIN.out, HC.out⟩
                  case measure => simp [intOf]; omega
              · as_aux_lemma =>
                obtain rfl : n = k := by omega
                have ltK : ¬ (n : Int) < n := by omega
                have HFIN : Hid (TB wr cb q n (fun j => if j = t' + 1 then partL (canK h A to q (t' + 1)) n (c + 1) else canK h A to q j) (t' + 1 + 1) R') := Lib.hid (by
                  have := midL_end h A to q t' c hcl (by rw [← HY.out, hky.resolve_left (by omega)]; have := HI1.out; omega)
                  rw [← HN.out] at this
                  rw [← this]; exact htb)
                have HC := Lib.hid hc
                clear htb hc hkn hky hlk
                go_wp2_with fail
                go_roundw
                case rel => exact ⟨c + 1, by go_num, by omega, HFIN.out, HC.out⟩
                case measure => simp [intOf]; omega
        · as_aux_lemma =>
          obtain rfl : n = c := by omega
          have ltC : ¬ (n : Int) < n := by omega
          have HFIN : Hid (TB wr cb q n (canK h A to q) (t + 1) R') := Lib.hid (htb.congr (fun j hj => by
            by_cases e : j = t
            · rw [if_pos e, partL_all _ _ (by rw [canK_len, HN.out]), e]
            · rw [if_neg e]))
          have HC := Lib.hid hc
          have hsb : (i : Int) - 1 + (t + 1 : Nat) + 1 = q := by have := HI.out; omega
          have HSB := Lib.hid hsb
          clear htb hc hcn hlc hsb
          go_wp2_with fail
          go_roundw
          case rel => exact ⟨(i : Int) - 1, t + 1, R', by go_num, HSB.out, by omega, HFIN.out, HC.out⟩
          case measure => first | (simp [intOf]; done) | (simp [intOf]; omega)
    · as_aux_lemma =>
      obtain rfl : t = q := by omega
      have hii : ii = -1 := by omega
      subst hii
      obtain ⟨w5, rfl⟩ : ∃ w5 : World, w5 = wr := ⟨_, rfl⟩
      have HTB := Lib.hid htb
      have HC := Lib.hid hc
      clear htb hc T0 C0 a1 hlt hit htq
      go_wp2_with fail
      go_loopw [16, 15] (fun v o wx => ∃ (i : Nat) (qs : List Nat), v = .int .i64 i ∧ i ≤ t ∧ Row wx 3 1 o qs i (nv (P.take i)) ∧ Ch [] w5 wx ∧ ∀ q ∈ qs, w5.heap.size ≤ q) (fun v _ _ => t - (intOf v).toNat)
      case atStart => exact ⟨0, [], rfl, by omega, Row.nil _ _ _ _, Ch.refl _ _, by simp⟩
      case round =>
        obtain ⟨i, qs, rfl, hi, hrow, hcx, hqs⟩ := hrel
        obtain ⟨an, cn, rfl, n1, n2, n3⟩ := hrow.rd
        rw [Nat.mul_one] at n3
        obtain ⟨w6, rfl⟩ : ∃ w6 : World, w6 = wr := ⟨_, rfl⟩
        by_cases hlt : i < t
        · as_aux_lemma =>
          have ltI : (i : Int) < t := by omega
          have hpl := HP.out.lt i hlt
          have hcd := HP.out.fst i hlt
          have hip : i < P.length := by rw [HP.out.len]; exact hlt
          have HTK := Lib.hid (show nv (P.take (i + 1)) = nv (P.take i) ++ [.int .i64 (P.getD i 0 : Nat)] by rw [take_snoc P i 0 hip, nv_snoc])
          have HPV : Hid (∀ i' : Nat, i' + 1 = i → (nv (P.take i))[i']? = some (.int .i64 (P.getD (i - 1) 0 : Nat)) ∧ P.getD (i - 1) 0 < n) := Lib.hid (fun i' hi' => by
            subst hi'
            rw [nv_at _ _ (by simp; omega), HN.out]
            refine ⟨by simp [List.getD_eq_getElem?_getD, List.getElem?_take], HP.out.lt _ (by omega)⟩)
          generalize P.getD (i - 1) 0 = prev at *
          generalize P.getD i 0 = p at *
          rw [← HN.out] at hpl
          have HCD := Lib.hid hcd
          have HTB6 := Lib.hid (HTB.out.ch hcx)
          have HCX := Lib.hid hcx
          have HQS := Lib.hid hqs
          have HRW := Lib.hid hrow
          have HRD := Lib.hid n3
          obtain ⟨i1, hi1⟩ : ∃ i1, i1 = i + 1 := ⟨_, rfl⟩
          have hi1I : (i : Int) + 1 = (i1 : Int) := by omega
          have HI1 := Lib.hid hi1
          clear hcd hip hcx hqs hrow n3 hi1 hi
          go_wp2_with fail
          go_loopw [17, 15] (fun v o wx => ∃ (c : Nat), v = .int .i64 c ∧ o = .slice an i cn ∧ c ≤ p ∧ w6 = wx) (fun v _ _ => n - (intOf v).toNat)
          case atStart => exact ⟨0, rfl, rfl, Nat.zero_le _, rfl⟩
          case round =>
            obtain ⟨c, rfl, rfl, hcp, rfl⟩ := hrel
            have hlc : c < n := by omega
            have ltC : (c : Int) < n := by omega
            have r0 := HTB6.out.at_ (j := t - 1 - i) (i := i) (by omega) (by omega)
            have b0 := HTB6.out.bit (j := t - 1 - i) (c := c) (by omega) (by rw [canK_len, ← HN.out]; exact hlc)
            have ac := cell_at (i := c) ((HC.out.trans' HCX.out).heap HA.out (by simp))
            rw [List.getElem?_toArray, nv_at _ _ (by rw [HAL.out]; exact hlc)] at ac
            have hcn := HCD.out c hcp
            unfold cnd at hcn
            generalize (canK h A to t (t - 1 - i)).getD c false = b1 at *
            generalize R (t - 1 - i) = rb at *
            have NMC : Hid (prev < n → Calls Tryd.prog 68 #[.slice ao n cap, .int .i64 prev, .int .i64 c] w6 fun e w' => e = .returned (.bool (nm h prev c)) ∧ w' = w6) := Lib.hid (fun hp => HNM.out w6 prev c (H2.out.trans' (HC.out.trans' HCX.out)) hp)
            have hyb := HBD.out c
            generalize A.getD c 0 = y at *
            generalize nm h prev c = nmv at *
            cases b1
            · as_aux_lemma =>
              have hne : c < p := by
                by_cases e : c = p
                · rw [decide_eq_true e] at hcn; simp at hcn
                · omega
              clear hcn hcp hyb
              go_wp2_with fail
              go_roundw
              case rel => exact ⟨c + 1, by go_num, by first | rfl | trivial, by omega, by first | rfl | trivial⟩
              case measure => simp [intOf]; omega
            by_cases hy : y = i + 1
            · have hyI : ((y : Int) == (i1 : Int)) = true := by have := HI1.out; simp; omega
              by_cases hi0 : i = 0
              · as_aux_lemma =>
                have hi0I : ((i : Int) == 0) = true := by simp; omega
                have hpc : c = p := by
                  rw [decide_eq_true hy, decide_eq_true hi0] at hcn
                  simpa using hcn.symm
                subst hpc
                have hrow := HRW.out
                have HROW := Lib.hid (hrow.ch ((Ch.refl [] w6).alloc (.cells #[.int .i64 c] 3)) (by simp))
                have HN1 := Lib.hid (newL (w := w6) (b := w6.heap.size) rfl [.int .i64 c] 3)
                obtain ⟨i0, hi2, he⟩ := Option.map_eq_some_iff.1 infoInt
                simp only [Prod.mk.injEq] at he
                obtain ⟨hz0, hz1, hz2⟩ := he
                clear hcn hcp hyb hy hi0 hrow
                go_wp2_with (at_builtin; go_loud (refine wpList_append_row _ rfl _ _ 59 rfl 3 i0 _ 1 8 Tryd.underlying59 hi2 hz0 hz1 hz2 rfl (by decide) rfl HROW.out ⟨w6.heap.size, 0, none⟩ 1 1 [.int .i64 c] rfl rfl HN1.out (one1 _ _) (by unfold maxLen; omega) (by omega) ?_))
                intro v' w8 qs' hr4 hc4 hq4
                have HR4 := Lib.hid hr4
                have HC4 := Lib.hid hc4
                have HQ4 := Lib.hid hq4
                obtain ⟨ao4, cap4, rfl, _⟩ := hr4.rd
                clear hr4 hc4 hq4
                go_wp2_with fail
                go_roundw
                case rel =>
                  refine ⟨i1, qs', rfl, by have := HI1.out; omega, by rw [HI1.out, HTK.out]; exact HR4.out, ((HCX.out.alloc _).trans HC4.out (fun x hx => .inr (HQS.out x hx))), fun q hq => ?_⟩
                  have s1 := HCX.out.size
                  rcases HQ4.out with e | ⟨q', e, h3, h4⟩
                  · rw [e] at hq; exact HQS.out q hq
                  · rw [e] at hq; simp at hq; subst hq
                    have s4 : w6.heap.size + 1 ≤ q := by simpa using h3
                    omega
                case measure => have := HI1.out; simp [intOf]; omega
              · have hi0I : ((i : Int) == 0) = false := by simp; omega
                obtain ⟨i', hi'⟩ : ∃ i' : Nat, i' + 1 = i := ⟨i - 1, by omega⟩
                have hsub : (i : Int) - 1 = (i' : Int) := by omega
                have ltI' : (i' : Int) < i := by omega
                obtain ⟨g1, g2⟩ := HPV.out i' hi'
                have N := NMC.out g2
                obtain ⟨bn, on, rfl, hx⟩ := HRD.out.2.resolve_left (by omega)
                have o1 := (hx i' (by omega)).trans g1
                have ltPv : (prev : Int) < n := by omega
                clear hx g1
                by_cases hpc : c = p
                · as_aux_lemma =>
                  subst hpc
                  have hnv : nmv = true := by
                    rw [decide_eq_true hy, decide_eq_false hi0] at hcn
                    simpa using hcn
                  subst hnv
                  have hrow := HRW.out
                  have HROW := Lib.hid (hrow.ch ((Ch.refl [] w6).alloc (.cells #[.int .i64 c] 3)) (by simp))
                  have HN1 := Lib.hid (newL (w := w6) (b := w6.heap.size) rfl [.int .i64 c] 3)
                  obtain ⟨i0, hi2, he⟩ := Option.map_eq_some_iff.1 infoInt
                  simp only [Prod.mk.injEq] at he
                  obtain ⟨hz0, hz1, hz2⟩ := he
                  clear hcn hcp hyb hy hi0 hi' hrow g2
                  go_wp2_with fail
                  refine N.mono ?_
                  rintro e w7 ⟨rfl, rfl⟩
                  go_wp2_with (at_builtin; go_loud (refine wpList_append_row _ rfl _ _ 59 rfl 3 i0 _ 1 8 Tryd.underlying59 hi2 hz0 hz1 hz2 rfl (by decide) rfl HROW.out ⟨w7.heap.size, 0, none⟩ 1 1 [.int .i64 c] rfl rfl HN1.out (one1 _ _) (by unfold maxLen; omega) (by omega) ?_))
                  intro v' w8 qs' hr4 hc4 hq4
                  have HR4 := Lib.hid hr4
                  have HC4 := Lib.hid hc4
                  have HQ4 := Lib.hid hq4
                  obtain ⟨ao4, cap4, rfl, _⟩ := hr4.rd
                  clear hr4 hc4 hq4
                  go_wp2_with fail
                  go_roundw
                  case rel =>
                    refine ⟨i1, qs', rfl, by have := HI1.out; omega, by rw [HI1.out, HTK.out]; exact HR4.out, ((HCX.out.alloc _).trans HC4.out (fun x hx => .inr (HQS.out x hx))), fun q hq => ?_⟩
                    have s1 := HCX.out.size
                    rcases HQ4.out with e | ⟨q', e, h3, h4⟩
                    · rw [e] at hq; exact HQS.out q hq
                    · rw [e] at hq; simp at hq; subst hq
                      have s4 : w7.heap.size + 1 ≤ q := by simpa using h3
                      omega
                  case measure => have := HI1.out; simp [intOf]; omega
                · as_aux_lemma =>
                  have hnv : nmv = false := by
                    rw [decide_eq_true hy, decide_eq_false hi0, decide_eq_false hpc] at hcn
                    simpa using hcn
                  subst hnv
                  have hne : c + 1 ≤ p := by omega
                  clear hcn hcp hyb hy hi0 hi' hpc g2
                  go_wp2_with fail
                  refine N.mono ?_
                  rintro e w7 ⟨rfl, rfl⟩
                  go_wp2_with fail
                  go_roundw
                  case rel => exact ⟨c + 1, by go_num, by first | rfl | trivial, by omega, by first | rfl | trivial⟩
                  case measure => simp [intOf]; omega
            · as_aux_lemma =>
              have hyI : ((y : Int) == (i1 : Int)) = false := by have := HI1.out; simp; omega
              have hne : c < p := by
                rw [decide_eq_false hy] at hcn
                by_cases e : c = p
                · rw [decide_eq_true e] at hcn; simp at hcn
                · omega
              clear hcn hcp hyb hy
              go_wp2_with fail
              go_roundw
              case rel => exact ⟨c + 1, by go_num, by first | rfl | trivial, by omega, by first | rfl | trivial⟩
              case measure => simp [intOf]; omega
        · as_aux_lemma =>
          obtain rfl : t = i := by omega
          have ltI : ¬ (t : Int) < t := by omega
          have Z : Hid (Path10 h ws to w (.returned (.tuple #[.slice an t cn, .bool true])) w6) := Lib.hid (by
            refine ⟨_, qs, by rw [HE1.out], ?_, H2.out.trans' (HC.out.trans' hcx), fun q hq => by have h1 := hqs q hq; have h2 := (H2.out.trans' HC.out).size; omega⟩
            rw [HE2.out, List.length_map, HP.out.len, ← nv_iv]
            rwa [List.take_of_length_le (by rw [HP.out.len]; exact Nat.le_refl _)] at hrow)
          clear hrow hcx hqs n3
          go_wp2_with fail
          go_ret2
          exact Z.out
end Go.Proofs.YtggijcebobjghaaDoor.Rp
