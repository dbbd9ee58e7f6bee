/-
  THE WALK of graph.Path, on.
-/
import Derived.Test.YtggijcebobjghaaDoorQGraph11
set_option linter.unusedVariables false
set_option linter.unusedSimpArgs false
set_option maxRecDepth 100000
namespace Go.Proofs.YtggijcebobjghaaDoor.Gr
open Go.RowKit Go.Proofs.YtggijcebobjghaaDoor.Wd Go.Proofs.YtggijcebobjghaaDoor.Hp Go.Proofs.YtggijcebobjghaaDoor.Gp Go.Proofs.YtggijcebobjghaaDoor.Sm

def pathOk (h : List Cel) (ws : List Int) (to : Int) : Bool := may h ws && (decide (0 ≤ to) && decide (to < h.length))
def pathE (h : List Cel) (ws : List Int) (to : Int) : Int := if pathOk h ws to then 0 else 100
def pathIs (h : List Cel) (ws : List Int) (to : Int) : Bool := pathOk h ws to && decide (0 ≤ best h to.toNat ws)
def pathR (h : List Cel) (ws : List Int) (to : Int) : List Int := if pathIs h ws to then path h to.toNat ws else []
def PathPost (h : List Cel) (ws : List Int) (to : Int) (w : World) (en : Ending) (w' : World) : Prop :=
  ∃ (v : Value) (qs : List Nat), en = .returned (.tuple #[v, .bool (pathIs h ws to), .int .i64 (pathE h ws to)]) ∧ Row w' 3 1 v qs (pathR h ws to).length (iv (pathR h ws to)) ∧ Ch [] w w' ∧ ∀ q ∈ qs, w.heap.size ≤ q
def slLen : Value → Nat
  | .slice _ k _ => k
  | _ => 0
theorem iv_snoc (l : List Int) (x : Int) : iv (l ++ [x]) = iv l ++ [.int .i64 x] := by simp [iv]
section
variable (w : World) (ao : Option Addr) (cap : Nat) (h : List Cel) (to : Int) (aw : Option Addr) (m cw : Nat) (ws : List Int)
set_option maxHeartbeats 4000000 in
theorem Path_any (hn : h.length ≤ 1000000) (hm : m ≤ 1000000)
    (hr : RdF w ao (h.length * 4) (flat h) []) (hrw : RdF w aw m (ints .u64 ws) []) (hh : ∀ x ∈ h, InR x) (hu : ∀ v ∈ ws, u64 v) (hb : Bnd w) :
    Calls Tryd.prog 18 #[.slice ao h.length cap, .int .i64 to, .slice aw m cw] w (PathPost h ws to w) := by
  have M := may_any w ao cap h aw m cw ws hn hm hr hrw hh hu hb
  have NO : pathOk h ws to = false → ∀ w', Ch [] w w' → PathPost h ws to w (.returned (.tuple #[.slice none 0 0, .bool false, .int .i64 100])) w' := fun e w' hc => by
    unfold PathPost pathE pathR pathIs; rw [e]
    exact ⟨_, [], rfl, Row.nil _ _ _ _, hc, by simp⟩
  have HNO := Lib.hid NO
  obtain ⟨R, hR⟩ : ∃ R, R = PathPost h ws to w := ⟨_, rfl⟩
  rw [← hR] at HNO ⊢
  have HRR := Lib.hid hR
  have HOK : Hid (pathOk h ws to = (may h ws && (decide (0 ≤ to) && decide (to < h.length)))) := Lib.hid rfl
  clear NO hR
  cases hmay : may h ws
  · rw [hmay] at M HOK
    have P := Lib.hid (HNO.out (by rw [HOK.out]; rfl))
    clear hr hrw hh hu hb hmay HNO HOK
    go_enter Tryd.func18, Tryd.ntmps18
    go_wp2_with fail
    refine M.mono ?_
    rintro e w2 ⟨rfl, h2⟩
    go_wp2_with fail
    go_ret3
    exact P.out _ h2
  · rw [hmay] at M HOK
    by_cases h0 : 0 ≤ to
    · by_cases h1 : to < h.length
      · obtain ⟨tn, rfl⟩ : ∃ tn : Nat, to = tn := ⟨to.toNat, by omega⟩
        have hok : pathOk h ws tn = true := by rw [HOK.out]; simp; omega
        have F := fun w2 (hc : Ch [] w w2) => far_any w2 ao cap h tn hn (by omega) (hr.ch hc (by simp)) hh (Bnd.ch hb hc (by simp)) (fun c hc => may_cells hmay c hc)
        have HF := Lib.hid F
        have HB := Lib.hid hb
        have HRD := Lib.hid hr
        have HRW := Lib.hid hrw
        have HHH := Lib.hid hh
        have HU := Lib.hid hu
        have HMC : Hid (∀ c, c < h.length → ∀ v ∈ wordsOf h c, isRef v = true → (cellN v).toNat < h.length) := Lib.hid (fun c hc => may_cells hmay c hc)
        have HMR := Lib.hid (may_roots hmay)
        have HFO := Lib.hid (far_ok h tn (by omega))
        have HPE : Hid (pathE h ws tn = 0) := Lib.hid (by unfold pathE; rw [hok]; rfl)
        have HIS : Hid (pathIs h ws tn = decide (0 ≤ best h tn ws)) := Lib.hid (by unfold pathIs; rw [hok]; rfl)
        have HBE : Hid (best h tn ws = eachW (better (far h tn)) (-1) ws) := Lib.hid rfl
        have HPA : Hid (path h tn ws = pathL h (far h tn) tn h.length (best h tn ws) [best h tn ws]) := Lib.hid rfl
        have HPP : Hid (∀ en w', PathPost h ws tn w en w' ↔ ∃ (v : Value) (qs : List Nat), en = .returned (.tuple #[v, .bool (pathIs h ws tn), .int .i64 (pathE h ws tn)]) ∧ Row w' 3 1 v qs (pathR h ws tn).length (iv (pathR h ws tn)) ∧ Ch [] w w' ∧ ∀ q ∈ qs, w.heap.size ≤ q) := Lib.hid (fun en w' => Iff.rfl)
        have HPR : Hid (pathR h ws tn = if pathIs h ws tn then path h tn ws else []) := Lib.hid rfl
        obtain ⟨n, hnl⟩ : ∃ n, n = h.length := ⟨_, rfl⟩
        have HN := Lib.hid hnl
        rw [← hnl] at M hn h1 ⊢
        have h1' : tn < n := by omega
        clear hr hrw hh hu hb hmay HNO HOK hok F hnl
        go_enter Tryd.func18, Tryd.ntmps18
        go_wp2_with fail
        refine M.mono ?_
        rintro e w2 ⟨rfl, h2⟩
        have F := HF.out w2 h2
        rw [← HN.out] at F
        have H2 := Lib.hid h2
        clear M HF h2
        go_wp2_with fail
        refine F.mono ?_
        rintro e w3 ⟨ob, rfl, g1, g2, g3⟩
        have H3 := H2.out.trans' g2
        obtain ⟨st, hst⟩ : ∃ st, st = far h tn := ⟨_, rfl⟩
        rw [← hst] at g1 HFO HBE HPA
        rw [← HN.out]
        have hob3 := lt_of g1
        have C4 := ((Ch.refl [] w3).alloc (.cells #[.slice (some ⟨ob, 0, none⟩) n n] 59)).alloc (.cells #[.int .i64 (-1)] 3)
        have I0 : PS w3.heap.size ob (w3.heap.size + 1) n st ((w3.alloc (.cells #[.slice (some ⟨ob, 0, none⟩) n n] 59)).alloc (.cells #[.int .i64 (-1)] 3)) (-1) [w3.heap.size + 1] := by
          refine ⟨rfl, heap_old (heap_new w3 _), C4.heap g1 (by simp), ?_, ⟨by omega, by omega⟩, by rw [HFO.out.len, HN.out], .inl rfl⟩
          have := heap_new (w3.alloc (.cells #[.slice (some ⟨ob, 0, none⟩) n n] 59)) (.cells #[.int .i64 (-1)] 3)
          simpa using this
        have hsw : w.heap.size ≤ w3.heap.size := H3.size
        have hbl := Bnd.block HB.out
        have hT : ∀ t ∈ [w3.heap.size + 1], w.heap.size ≤ t := fun t ht => by simp at ht; omega
        have CW4 := H3.trans' C4
        have EP := each_path _ _ _ _ _ (better_steps w3.heap.size ob (w3.heap.size + 1) n st hn) _ (-1) _ I0 aw m cw ws hm (HRW.out.ch CW4 (fun t ht => .inr (hT t ht))) (Bnd.ch HB.out CW4 (by simp)) (fun hx => by have := hT _ hx; omega) HU.out (by rw [HN.out]; exact HMR.out)
        rw [← HBE.out] at EP
        have HOB := Lib.hid g1
        have HW3 := Lib.hid H3
        have HCW4 := Lib.hid CW4
        have HTT := Lib.hid hT
        have HBL := Lib.hid hbl
        clear F g1 g2 g3 H2 hst I0 hT C4 CW4 H3 hbl
        go_wp2_with fail
        refine EP.mono ?_
        rintro e w5 ⟨rfl, T5, g1, g2, g3⟩
        obtain rfl := g1.t
        have C5 := Lib.hid (HCW4.out.trans g2 (fun t ht => .inr (HTT.out t ht)))
        have hbo := g1.ok
        have a1 := cell_at (i := 0) g1.hpb
        simp only [List.getElem?_toArray, List.getElem?_cons_zero] at a1
        have G1 := Lib.hid g1
        obtain ⟨be, hbe⟩ : ∃ be, be = best h tn ws := ⟨_, rfl⟩
        rw [← hbe] at a1 hbo G1 HIS HPA
        have HBEE := Lib.hid hbe
        clear EP g1 g2 g3 HCW4 hbe
        by_cases hneg : be < 0
        · have hd : decide (0 ≤ be) = false := by simp; omega
          have Z : Hid (R (.returned (.tuple #[.slice none 0 0, .bool false, .int .i64 0])) w5) := Lib.hid (by
            rw [HRR.out, HPP.out, HPE.out, HPR.out, HIS.out, hd]
            exact ⟨_, [], rfl, Row.nil _ _ _ _, C5.out, by simp⟩)
          go_wp2_with fail
          go_ret3
          exact Z.out
        · obtain ⟨bs, rfl⟩ : ∃ bs : Nat, be = bs := ⟨be.toNat, by omega⟩
          have hbo2 : bs < n ∧ 0 ≤ st.getD bs 0 := by
            rcases hbo with e | ⟨e1, e2, e3⟩
            · omega
            · rw [Int.toNat_natCast] at e3; exact ⟨by omega, e3⟩
          have hpa : pathL h st tn (n + 1 - 1) bs [(bs : Int)] = path h tn ws := by rw [HPA.out, ← HN.out]; rfl
          have HPL := Lib.hid hpa
          have CA := (Ch.refl [] w5).alloc (.cells #[.int .i64 bs] 3)
          have hl5 := lt_of G1.out.hpb
          have HI1 := Lib.hid (G1.out.ch CA)
          have HR1 : Hid (Row (w5.alloc (.cells #[.int .i64 bs] 3)) 3 1 (.slice (some ⟨w5.heap.size, 0, none⟩) 1 1) [w5.heap.size] 1 (iv [(bs : Int)])) := Lib.hid (Row.block (xs := iv [(bs : Int)]) (heap_new w5 _) rfl (by omega))
          have HCA := Lib.hid (C5.out.trans' CA)
          have x1 := HFO.out.lt bs
          rw [← HN.out] at x1
          have HBO := Lib.hid hbo2
          clear hbo hpa CA G1
          go_wp2_with fail
          go_loopw [12] (fun p wr => ∃ (bn : Nat) (l : List Int) (qs : List Nat), PS w3.heap.size ob (w3.heap.size + 1) n st wr bn [w3.heap.size + 1] ∧ bn < n ∧ 0 ≤ st.getD bn 0 ∧ Row wr 3 1 p qs l.length (iv l) ∧ 1 ≤ l.length ∧ (l.length : Int) + st.getD bn 0 ≤ n ∧ pathL h st tn (n + 1 - l.length) bn l = path h tn ws ∧ Ch [] w wr ∧ ∀ q ∈ qs, w.heap.size ≤ q ∧ q ≠ w3.heap.size ∧ q ≠ ob ∧ q ≠ w3.heap.size + 1) (fun p _ => n - slLen p)
          case atStart => exact ⟨bs, [(bs : Int)], [w5.heap.size], HI1.out, HBO.out.1, HBO.out.2, HR1.out, by simp, by show (1 : Int) + st.getD bs 0 ≤ n; omega, HPL.out, HCA.out, fun q hq => by simp at hq; subst hq; have := C5.out.size; omega⟩
          case round =>
            obtain ⟨bn, l, qs, hps, hbn, hb0, hrow, hl1, hll, hpl, hc, hqs⟩ := hrel
            obtain ⟨ap, cp, rfl, p1, p2, p3⟩ := hrow.rd
            have a1 := cell_at (i := 0) hps.hpb
            simp only [List.getElem?_toArray, List.getElem?_cons_zero] at a1
            have f1 := free_at (i := 0) hps.hpb
            have HROW := Lib.hid hrow
            have HC := Lib.hid hc
            have HQ := Lib.hid hqs
            have HPS := Lib.hid hps
            clear HI1 HR1 HCA HPL HBO x1
            by_cases heq : bn = tn
            · subst heq
              have e1 : pathL h st bn (n + 1 - l.length) bn l = l := by
                have hlen : l.length ≤ n := by omega
                rw [show n + 1 - l.length = (n - l.length) + 1 by omega, pathL, if_pos rfl]
              have hpl2 := e1.symm.trans hpl
              have Z : Hid (R (.returned (.tuple #[.slice ap l.length cp, .bool true, .int .i64 0])) wr) := Lib.hid (by
                rw [HRR.out, HPP.out, HPE.out, HPR.out, HIS.out]
                have : decide ((0 : Int) ≤ (bs : Int)) = true := by simp
                rw [this, if_pos rfl, ← hpl2]
                exact ⟨_, qs, rfl, hrow, hc, fun q hq => (hqs q hq).1⟩)
              clear hps hrow hpl hc hqs p3 e1 hpl2
              go_wp2_with fail
              go_ret3
              exact Z.out
            · obtain ⟨b', e1, e2, e3, e4⟩ := next_ok HFO.out HMC.out (by rw [← HN.out]; exact hbn) hb0 heq
              rw [← HN.out] at e2
              have hne : ((bn : Int) != (tn : Int)) = true := by simp; omega
              have C1 : Ch [w3.heap.size + 1] wr (wr.setCell ⟨w3.heap.size + 1, 0, none⟩ (.int .i64 (-1))) := (Ch.refl _ _).setCell _ _ (.inl (by simp))
              have CW : Ch [] w (wr.setCell ⟨w3.heap.size + 1, 0, none⟩ (.int .i64 (-1))) := hc.setCell _ _ (.inr (HTT.out _ (by simp)))
              have I1 : PS w3.heap.size ob (w3.heap.size + 1) n st (wr.setCell ⟨w3.heap.size + 1, 0, none⟩ (.int .i64 (-1))) (-1) [w3.heap.size + 1] := ⟨rfl, (heap_set_ne hps.ne.1).trans hps.hps, (heap_set_ne hps.ne.2).trans hps.hob, heap_set hps.hpb _, hps.ne, hps.len, .inl rfl⟩
              have hlp := lt_of hps.hpb
              have EN := named_path _ _ _ _ _ (better_steps w3.heap.size ob (w3.heap.size + 1) n st hn) (fun w w' s T h hc => h.ch hc) _ (-1) _ I1 (fun t ht => by simp at ht; subst ht; simpa [World.setCell] using hlp) ao cap h bn (by rw [← HN.out]; exact hbn) (by rw [← HN.out]; exact hn) (HRD.out.ch CW (fun t ht => .inr (HTT.out t ht))) HHH.out (Bnd.ch HB.out CW (by simp)) (fun hx => by have := HTT.out _ hx; have := HBL.out; omega) (by rw [HN.out]; exact HMC.out bn (by rw [← HN.out]; exact hbn))
              rw [← HN.out, e1] at EN
              have R1 := hrow.ch C1 (fun q hq => by simpa using (hqs q hq).2.2.2)
              have HE2 := Lib.hid e2
              have HC1 := Lib.hid CW
              have HR1 := Lib.hid R1
              have HPL2 : Hid (pathL h st tn (n + 1 - (l.length + 1)) b' (l ++ [(b' : Int)]) = path h tn ws) := Lib.hid (by
                have hlen : l.length < n := by omega
                rw [show n + 1 - l.length = (n + 1 - (l.length + 1)) + 1 by omega, pathL, if_neg (by omega), Int.toNat_natCast, e1] at hpl
                exact hpl)
              have hlen : l.length < n := by omega
              obtain ⟨ll, hlle⟩ : ∃ ll, ll = l.length := ⟨_, rfl⟩
              have HLL := Lib.hid hlle
              rw [← hlle] at hlen hll ⊢
              clear hps hrow hpl hc hqs p3 e1 C1 CW I1 hlp R1 HPS HROW HC hlle hl1
              go_wp2_with fail
              refine EN.mono ?_
              rintro e w6 ⟨rfl, T6, g1, g2, g3⟩
              obtain rfl := g1.t
              have b1 := cell_at (i := 0) g1.hpb
              simp only [List.getElem?_toArray, List.getElem?_cons_zero] at b1
              have CA := (Ch.refl [] w6).alloc (.cells #[.int .i64 b'] 3)
              have HG6 := Lib.hid (g1.ch CA)
              have HL6 := Lib.hid (lt_of g1.hpb)
              have HO6 := Lib.hid (lt_of g1.hob)
              have C6 := Lib.hid ((HC1.out.trans g2 (fun t ht => .inr (HTT.out t ht))).trans' CA)
              have hsz := g2.size
              have hsz1 : (wr.setCell ⟨w3.heap.size + 1, 0, none⟩ (.int .i64 (-1))).heap.size = wr.heap.size := by simp [World.setCell]
              have HSZ : Hid (wr.heap.size ≤ w6.heap.size) := Lib.hid (by omega)
              have HR6 := Lib.hid ((HR1.out.ch g2 (fun q hq => by simpa using (HQ.out q hq).2.2.2)).ch CA (by simp))
              have HN6 := Lib.hid (newL (w := w6) (b := w6.heap.size) rfl [.int .i64 b'] 3)
              obtain ⟨i0, hi, he⟩ := Option.map_eq_some_iff.1 infoInt
              simp only [Prod.mk.injEq] at he
              obtain ⟨hz0, hz1, hz2⟩ := he
              rw [← HLL.out] at HR6
              clear EN g1 g2 g3 CA hsz hsz1 HR1 HC1
              go_wp2_with (at_builtin; go_loud (refine wpList_append_row _ rfl _ _ 59 rfl 3 i0 _ 1 8 Tryd.underlying59 hi hz0 hz1 hz2 rfl (by decide) rfl HR6.out ⟨w6.heap.size, 0, none⟩ 1 1 [.int .i64 b'] rfl rfl HN6.out (one1 _ _) (by unfold maxLen; omega) (by omega) ?_))
              intro v' w7 qs2 hr4 hc4 hq4
              have HR4 := Lib.hid hr4
              have HC5 := Lib.hid hc4
              have HQ5 := Lib.hid hq4
              obtain ⟨ao4, cap4, rfl, _⟩ := hr4.rd
              clear hr4 hc4 hq4
              go_wp2_with fail
              go_roundw
              case rel =>
                have hl2 : (l ++ [(b' : Int)]).length = ll + 1 := by simp [HLL.out]
                have hq7 : ∀ q ∈ qs, q ≠ w3.heap.size ∧ q ≠ ob ∧ q ≠ w3.heap.size + 1 := fun q hq => (HQ.out q hq).2
                refine ⟨b', l ++ [(b' : Int)], qs2, ⟨rfl, HC5.out.heap HG6.out.hps (fun hm => (hq7 _ hm).1 rfl), HC5.out.heap HG6.out.hob (fun hm => (hq7 _ hm).2.1 rfl), HC5.out.heap HG6.out.hpb (fun hm => (hq7 _ hm).2.2 rfl), HG6.out.ne, HG6.out.len, HG6.out.ok⟩, HE2.out, e3, by rw [hl2, iv_snoc]; exact HR4.out, by omega, by rw [hl2]; push_cast; omega, by rw [hl2, HLL.out]; exact HPL2.out, C6.out.trans HC5.out (fun x hx => .inr (HQ.out x hx).1), fun q hq => ?_⟩
                rcases HQ5.out with e | ⟨q', e, h3, h4⟩
                · rw [e] at hq; exact HQ.out q hq
                · rw [e] at hq; simp at hq; subst hq
                  have s1 := C6.out.size
                  have s2 := HL6.out
                  have s3 := HO6.out
                  have s4 : w6.heap.size + 1 ≤ q := by simpa using h3
                  simp at s1
                  omega
              case measure => simp [slLen]; omega
      · have P := Lib.hid (HNO.out (by rw [HOK.out]; simp; omega))
        have h1' : decide (to < h.length) = false := by simpa using h1
        clear hr hrw hh hu hb hmay HNO HOK
        go_enter Tryd.func18, Tryd.ntmps18
        go_wp2_with fail
        refine M.mono ?_
        rintro e w2 ⟨rfl, h2⟩
        go_wp2_with fail
        go_ret3
        exact P.out _ h2
    · have P := Lib.hid (HNO.out (by rw [HOK.out]; simp; omega))
      clear hr hrw hh hu hb hmay HNO HOK
      go_enter Tryd.func18, Tryd.ntmps18
      go_wp2_with fail
      refine M.mono ?_
      rintro e w2 ⟨rfl, h2⟩
      go_wp2_with fail
      go_ret3
      exact P.out _ h2
end
end Go.Proofs.YtggijcebobjghaaDoor.Gr
