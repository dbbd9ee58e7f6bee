/-
  THE WALKS of graph.Check, may.
-/
import Derived.Test.YtggijcebobjghaaDoorGraph1
set_option linter.unusedVariables false
set_option linter.unusedSimpArgs false
set_option maxRecDepth 100000
namespace Go.Proofs.YtggijcebobjghaaDoor.Gr
open Go.RowKit Go.Proofs.YtggijcebobjghaaDoor.Wd Go.Proofs.YtggijcebobjghaaDoor.Hp Go.Proofs.YtggijcebobjghaaDoor.Gp Go.Proofs.YtggijcebobjghaaDoor.Sm

def checkE (h : List Cel) : Int := match badAt h.length h 0 with | none => 0 | some _ => 100
def checkI (h : List Cel) : Int := match badAt h.length h 0 with | none => 0 | some i => i
theorem badAt_none (n : Nat) : ∀ (l : List Cel) (i : Nat), (∀ j, j < l.length → okCell n (l.getD j z) = true) → badAt n l i = none
  | [], _, _ => rfl
  | x :: l, i, h => by
    have h0 := h 0 (by simp)
    simp only [List.getD_cons_zero] at h0
    rw [badAt, if_pos h0]
    exact badAt_none n l (i + 1) fun j hj => by have := h (j + 1) (by simpa using hj); simpa using this
theorem badAt_some (n : Nat) : ∀ (l : List Cel) (i k : Nat), k < l.length → (∀ j, j < k → okCell n (l.getD j z) = true) → okCell n (l.getD k z) = false → badAt n l i = some (i + k)
  | [], _, _, h, _, _ => absurd h (by simp)
  | x :: l, i, 0, _, _, hb => by
    simp only [List.getD_cons_zero] at hb
    rw [badAt, hb]; rfl
  | x :: l, i, k + 1, hk, h, hb => by
    have h0 := h 0 (by omega)
    simp only [List.getD_cons_zero] at h0
    rw [badAt, if_pos h0, badAt_some n l (i + 1) k (by simpa using hk) (fun j hj => by have := h (j + 1) (by omega); simpa using this) (by simpa using hb)]
    congr 1; omega
theorem all_getD (p : Cel → Bool) (l : List Cel) : l.all p = true ↔ ∀ j, j < l.length → p (l.getD j z) = true := by
  rw [List.all_eq_true]
  constructor
  · intro h j hj
    rw [show l.getD j z = l[j] by simp [List.getD, hj]]
    exact h _ (List.getElem_mem hj)
  · intro h x hx
    obtain ⟨j, hj, rfl⟩ := List.getElem_of_mem hx
    have := h j hj
    rwa [show l.getD j z = l[j] by simp [List.getD, hj]] at this
theorem checkE_ok (h : List Cel) : checkE h = 0 ↔ h.all (okCell h.length) = true := by
  rw [all_getD]
  unfold checkE
  constructor
  · intro he
    by_cases hx : ∀ j, j < h.length → okCell h.length (h.getD j z) = true
    · exact hx
    · have hx' : ∃ j, j < h.length ∧ okCell h.length (h.getD j z) = false := by
        apply Classical.byContradiction
        intro hn
        apply hx
        intro j hj
        cases ho : okCell h.length (h.getD j z) with
        | true => rfl
        | false => exact absurd ⟨j, hj, ho⟩ hn
      have : ∀ m, m < h.length → okCell h.length (h.getD m z) = false → badAt h.length h 0 ≠ none := by
        intro m
        induction m using Nat.strongRecOn with
        | _ m ih =>
          intro hm ho
          by_cases hf : ∀ j, j < m → okCell h.length (h.getD j z) = true
          · rw [badAt_some _ _ _ m hm hf ho]; simp
          · have : ∃ j, j < m ∧ okCell h.length (h.getD j z) = false := by
              apply Classical.byContradiction
              intro hn
              apply hf
              intro j hj
              cases hjo : okCell h.length (h.getD j z) with
              | true => rfl
              | false => exact absurd ⟨j, hj, hjo⟩ hn
            obtain ⟨j, hj, hjo⟩ := this
            exact ih j hj (by omega) hjo
      obtain ⟨j, hj, hjo⟩ := hx'
      have h3 := this j hj hjo
      revert he
      cases hb : badAt h.length h 0 with
      | none => exact absurd hb h3
      | some q => simp
  · intro hx
    rw [badAt_none _ _ _ hx]
theorem checkE_or (h : List Cel) : checkE h = 0 ∨ checkE h = 100 := by unfold checkE; split <;> simp
def ChkPost (h : List Cel) (w : World) (e : Ending) (w' : World) : Prop := e = .returned (.tuple #[.int .i64 (checkE h), .int .i64 (checkI h)]) ∧ Ch [] w w'
theorem ChkPost.bad {h : List Cel} {w w' : World} (k : Nat) (hk : k < h.length) (hf : ∀ j, j < k → okCell h.length (h.getD j z) = true) (ho : okCell h.length (h.getD k z) = false) (hc : Ch [] w w') : ChkPost h w (.returned (.tuple #[.int .i64 100, .int .i64 k])) w' := by
  refine ⟨?_, hc⟩
  unfold checkE checkI
  rw [badAt_some _ _ _ k hk hf ho]; simp
theorem ChkPost.good {h : List Cel} {w w' : World} (hf : ∀ j, j < h.length → okCell h.length (h.getD j z) = true) (hc : Ch [] w w') : ChkPost h w (.returned (.tuple #[.int .i64 0, .int .i64 0])) w' := by
  refine ⟨?_, hc⟩
  unfold checkE checkI
  rw [badAt_none _ _ _ hf]
theorem Check_any (w : World) (ao : Option Addr) (cap : Nat) (h : List Cel) (hn : h.length ≤ 1000000) (hr : RdF w ao (h.length * 4) (flat h) []) (hh : ∀ x ∈ h, InR x) (hb : Bnd w) :
    Calls Tryd.prog 35 #[.slice ao h.length cap] w (ChkPost h w) := by
  have HR := Lib.hid hr
  have HH := Lib.hid hh
  have HB := Lib.hid hb
  obtain ⟨n, hnl⟩ : ∃ n, n = h.length := ⟨_, rfl⟩
  rw [← hnl] at hn ⊢
  have HN := Lib.hid hnl
  clear hr hh hb hnl
  go_enter Tryd.func35, Tryd.ntmps35
  go_wp2_with fail
  go_loopw [8] (fun i wr => ∃ (k : Nat), k ≤ n ∧ i = .int .i64 k ∧ Ch [] w wr ∧ ∀ j, j < k → okCell h.length (h.getD j z) = true) (fun i _ => n - (intOf i).toNat)
  case atStart => exact ⟨0, by omega, rfl, Ch.refl _ _, fun j hj => absurd hj (by omega)⟩
  case round =>
    obtain ⟨k, hk, rfl, hc, hf⟩ := hrel
    have HC := Lib.hid hc
    have HF := Lib.hid hf
    clear hc hf
    by_cases hlt : k < n
    · have hkl : k < h.length := by rw [← HN.out]; exact hlt
      obtain ⟨b, off, rfl, hbn, hj⟩ := HR.out.2.resolve_left (by omega)
      have hA : ∀ t, t < 4 → wr.cell? ⟨b, off + (k * 4 + t), none⟩ = (celV (h.getD k z))[t]? := fun t ht => by
        have h3 := (hj (k * 4 + t) (by omega)).trans (flat_get h k t hkl ht)
        rw [List.getElem?_eq_getElem (by simp [celV]; omega)] at h3 ⊢
        exact HC.out.cell h3 (by simp)
      have a0 := hA 0 (by omega)
      have a1 := hA 1 (by omega)
      have a2 := hA 2 (by omega)
      have a3 := hA 3 (by omega)
      obtain ⟨i1, i2, i3, i4, i5, i6⟩ := InR.at HH.out k hkl
      have HO : Hid (okCell h.length (h.getD k z) = okCell n (h.getD k z)) := Lib.hid (by rw [HN.out])
      have HKL := Lib.hid hkl
      obtain ⟨x, hx⟩ : ∃ x, x = h.getD k z := ⟨_, rfl⟩
      rw [← hx] at a0 a1 a2 a3 i1 i2 i3 i4 i5 i6
      have HX := Lib.hid hx
      obtain ⟨ck, cc, ca, cb⟩ := x
      simp only [celV, List.getElem?_cons_zero, List.getElem?_cons_succ, Nat.add_zero, ← Nat.add_assoc] at a0 a1 a2 a3
      simp only at i1 i2 i3 i4 i5 i6
      have HCA := Lib.hid ((Ch.refl [] wr).alloc (.cells #[.int .u8 ck, .int .u8 cc, .int .u64 ca, .int .u64 cb] 55))
      have HCW := Lib.hid (HC.out.trans HCA.out (fun t ht => absurd ht (by simp)))
      have BD : Bnd (wr.alloc (.cells #[.int .u8 ck, .int .u8 cc, .int .u64 ca, .int .u64 cb] 55)) := Bnd.ch HB.out HCW.out (by simp)
      have WA := isWord_any (wr.alloc (.cells #[.int .u8 ck, .int .u8 cc, .int .u64 ca, .int .u64 cb] 55)) ca n i5 BD
      have WB := isWord_any (wr.alloc (.cells #[.int .u8 ck, .int .u8 cc, .int .u64 ca, .int .u64 cb] 55)) cb n i6 BD
      have ltI : (k : Int) < n := by omega
      have HOK : Hid (okCell h.length (h.getD k z) = (!(decide (3 < ck)) && !(decide (2 < cc)) && (ck == 0 || (isWord ca n && isWord cb n)))) := Lib.hid (by rw [HO.out, ← HX.out]; rfl)
      clear hj hbn hA hkl hx BD HO HX HC HCA
      generalize isWord ca n = ia at *
      generalize isWord cb n = ib at *
      have Dr := fun (W : World) => HCW
      by_cases k3 : 3 < ck
      · go_wp2_with fail
        go_ret2
        exact ChkPost.bad k HKL.out HF.out (by rw [HOK.out]; simp [k3]) HCW.out
      · have k3' : ck ≤ 3 := by omega
        by_cases c2 : 2 < cc
        · go_wp2_with fail
          go_ret2
          exact ChkPost.bad k HKL.out HF.out (by rw [HOK.out]; simp [c2]) HCW.out
        · have c2' : cc ≤ 2 := by omega
          by_cases k0 : ck = 0
          · subst k0
            go_wp2_with fail
            go_roundw
            case rel =>
              refine ⟨k + 1, by omega, by go_num, HCW.out, fun j hj => ?_⟩
              by_cases e : j = k
              · subst e; rw [HOK.out]; simp [c2]
              · exact HF.out j (by omega)
            case measure => simp [intOf]; omega
          · have k0' : (ck != 0) = true := by simpa using k0
            cases ia
            · go_wp2_with fail
              refine WA.mono ?_
              rintro e w2 ⟨rfl, rfl⟩
              go_wp2_with fail
              go_ret2
              exact ChkPost.bad k HKL.out HF.out (by rw [HOK.out]; simp [k0, k3, c2]) HCW.out
            · cases ib
              · go_wp2_with fail
                refine WA.mono ?_
                rintro e w2 ⟨rfl, rfl⟩
                go_wp2_with fail
                refine WB.mono ?_
                rintro e w2 ⟨rfl, rfl⟩
                go_wp2_with fail
                go_ret2
                exact ChkPost.bad k HKL.out HF.out (by rw [HOK.out]; simp [k0, k3, c2]) HCW.out
              · go_wp2_with fail
                refine WA.mono ?_
                rintro e w2 ⟨rfl, rfl⟩
                go_wp2_with fail
                refine WB.mono ?_
                rintro e w2 ⟨rfl, rfl⟩
                go_wp2_with fail
                go_roundw
                case rel =>
                  refine ⟨k + 1, by omega, by go_num, HCW.out, fun j hj => ?_⟩
                  by_cases e : j = k
                  · subst e; rw [HOK.out]; simp [k0, k3, c2]
                  · exact HF.out j (by omega)
                case measure => simp [intOf]; omega
    · obtain rfl : k = n := by omega
      have P : Hid (ChkPost h w (.returned (.tuple #[.int .i64 0, .int .i64 0])) wr) := Lib.hid (ChkPost.good (fun j hj => HF.out j (by rw [HN.out]; exact hj)) HC.out)
      go_wp2_with fail
      go_ret2
      exact P.out

theorem may1_any (w : World) (x : Int) (bt : Nat) (ao : Option Addr) (n cap : Nat) (hx : u64 x) (ht : w.cell? ⟨bt, 0, none⟩ = some (.slice ao n cap)) (hb : Bnd w) :
    Calls Tryd.prog 80 #[.int .u64 x, .pointer (some ⟨bt, 0, none⟩)] w fun e w' => e = .returned (.bool (!isWord x n)) ∧ w' = w := by
  have H := isWord_any w x n hx hb
  clear hx hb
  generalize isWord x n = r at *
  go_enter Tryd.func80, Tryd.ntmps80
  go_wp2_with (go_at_call 76; refine H.mono ?_; rintro e w2 ⟨rfl, rfl⟩)
  go_ret
  exact ⟨rfl, rfl⟩
set_option maxHeartbeats 400000 in
theorem IndexFunc_any (w : World) (ao : Option Addr) (n cn : Nat) (ws : List Int) (bt : Nat) (aoh : Option Addr) (m caph : Nat) (hn : n ≤ 1000000) (hr : RdF w ao n (ints .u64 ws) []) (hu : ∀ v ∈ ws, u64 v) (hb : Bnd w) (ht : w.cell? ⟨bt, 0, none⟩ = some (.slice aoh m caph)) :
    Calls Tryd.prog 86 #[.slice ao n cn, .func (.func 80) #[] #[.pointer (some ⟨bt, 0, none⟩)]] w fun e w' => (∃ i : Int, e = .returned (.int .i64 i) ∧ decide (0 ≤ i) = ws.any (fun v => !isWord v m)) ∧ w' = w := by
  have hl : ws.length = n := by simpa [ints] using hr.1
  have HR := Lib.hid hr
  have HB := Lib.hid hb
  have HU := Lib.hid hu
  have HL := Lib.hid hl
  have HT := Lib.hid ht
  clear hr hb hu hl ht
  go_enter Tryd.func86, Tryd.ntmps86
  go_wp2_with fail
  go_loopw [8] (fun i wr => ∃ k : Nat, k ≤ n ∧ i = .int .i64 k ∧ (∀ j, j < k → isWord (ws.getD j 0) m = true) ∧ wr = w) (fun i _ => n - (intOf i).toNat)
  case atStart => exact ⟨0, by omega, rfl, (fun j hj => absurd hj (by omega)), by first | rfl | trivial⟩
  case round =>
    obtain ⟨k, hk, rfl, hag, rfl⟩ := hrel
    have HG := Lib.hid hag
    clear hag
    by_cases hlt : k < n
    · have hkl : k < ws.length := by rw [HL.out]; exact hlt
      obtain ⟨v, hv⟩ : ∃ v, v = ws.getD k 0 := ⟨_, rfl⟩
      have hvm : v ∈ ws := by rw [hv, show ws.getD k 0 = ws[k] by simp [List.getD, hkl]]; exact List.getElem_mem hkl
      obtain ⟨b, off, rfl, hbn, hj⟩ := HR.out.2.resolve_left (by omega)
      have c1 := (hj k hlt).trans ((ints_get hkl).trans (by rw [← hv]))
      have CL := may1_any wr v bt aoh m caph (HU.out v hvm) HT.out HB.out
      have ltI : (k : Int) < n := by omega
      have HV := Lib.hid hv
      have HKL := Lib.hid hkl
      clear hj hbn hv hvm hkl
      cases hiw : isWord v m
      · rw [hiw] at CL
        have HIW := Lib.hid hiw
        clear hiw
        go_wp2_with (go_at_call 80; refine CL.mono ?_; rintro e w2 ⟨rfl, rfl⟩)
        go_ret
        refine ⟨⟨_, rfl, ?_⟩, rfl⟩
        have : ws.any (fun v => !isWord v m) = true := by
          rw [List.any_eq_true]
          exact ⟨v, by rw [HV.out, show ws.getD k 0 = ws[k]'HKL.out by simp [List.getD, HKL.out]]; exact List.getElem_mem _, by simp [HIW.out]⟩
        rw [this]; simp
      · rw [hiw] at CL
        have HIW := Lib.hid hiw
        clear hiw
        go_wp2_with (go_at_call 80; refine CL.mono ?_; rintro e w2 ⟨rfl, rfl⟩)
        go_roundw
        case rel => exact ⟨k + 1, by omega, by go_num, (fun j hj => by
          rcases Nat.lt_or_ge j k with h | h
          · exact HG.out j h
          · obtain rfl : j = k := by omega
            rw [← HV.out]; exact HIW.out), by first | rfl | trivial⟩
        case measure => simp [intOf]; omega
    · obtain rfl : k = n := by omega
      go_wp2_with fail
      go_ret
      refine ⟨⟨_, rfl, ?_⟩, rfl⟩
      have : ws.any (fun v => !isWord v m) = false := by
        rw [List.any_eq_false]
        intro x hx
        obtain ⟨j, hj, rfl⟩ := List.getElem_of_mem hx
        have := HG.out j (by rw [← HL.out]; exact hj)
        rw [show ws.getD j 0 = ws[j] by simp [List.getD, hj]] at this
        simp [this]
      rw [this]; simp
theorem ContainsFunc_any (w : World) (ao : Option Addr) (n cn : Nat) (ws : List Int) (bt : Nat) (aoh : Option Addr) (m caph : Nat) (hn : n ≤ 1000000) (hr : RdF w ao n (ints .u64 ws) []) (hu : ∀ v ∈ ws, u64 v) (hb : Bnd w) (ht : w.cell? ⟨bt, 0, none⟩ = some (.slice aoh m caph)) :
    Calls Tryd.prog 79 #[.slice ao n cn, .func (.func 80) #[] #[.pointer (some ⟨bt, 0, none⟩)]] w fun e w' => e = .returned (.bool (ws.any (fun v => !isWord v m))) ∧ w' = w := by
  have H := IndexFunc_any w ao n cn ws bt aoh m caph hn hr hu hb ht
  clear hr hu hb ht
  generalize ws.any (fun v => !isWord v m) = r at *
  go_enter Tryd.func79, Tryd.ntmps79
  go_wp2_with (go_at_call 86; refine H.mono ?_; rintro e w2 ⟨⟨i, rfl, hi⟩, rfl⟩; have hI := Lib.hid hi; clear hi)
  go_ret
  exact ⟨by rw [← hI.out]; rfl, rfl⟩
theorem all_not_any (ws : List Int) (m : Nat) : ws.all (fun v => isWord v m) = !ws.any (fun v => !isWord v m) := by
  induction ws with
  | nil => rfl
  | cons x l ih => simp only [List.all_cons, List.any_cons, ih]; cases isWord x m <;> simp
theorem may_any (w : World) (ao : Option Addr) (cap : Nat) (h : List Cel) (aw : Option Addr) (n cn : Nat) (ws : List Int) (hn : h.length ≤ 1000000) (hn2 : n ≤ 1000000) (hr : RdF w ao (h.length * 4) (flat h) []) (hrw : RdF w aw n (ints .u64 ws) []) (hh : ∀ x ∈ h, InR x) (hu : ∀ v ∈ ws, u64 v) (hb : Bnd w) :
    Calls Tryd.prog 62 #[.slice ao h.length cap, .slice aw n cn] w fun e w' => e = .returned (.bool (may h ws)) ∧ Ch [] w w' := by
  have C0 : Ch [] w (w.alloc (.cells #[.slice ao h.length cap] 23)) := (Ch.refl _ _).alloc _
  have ht : (w.alloc (.cells #[.slice ao h.length cap] 23)).cell? ⟨w.heap.size, 0, none⟩ = some (.slice ao h.length cap) := World.cell?_alloc_at _ _ _ _ rfl
  have CK := Check_any _ ao cap h hn (hr.ch C0 (by simp)) hh (Bnd.ch hb C0 (by simp))
  have HE := checkE_ok h
  have HOR := checkE_or h
  have CF := fun w2 (h2 : Ch [] (w.alloc (.cells #[.slice ao h.length cap] 23)) w2) => ContainsFunc_any w2 aw n cn ws w.heap.size ao h.length cap hn2 ((hrw.ch C0 (T' := []) (by simp)).ch h2 (by simp)) hu (Bnd.ch (Bnd.ch hb C0 (by simp)) h2 (by simp)) (h2.cell ht (by simp))
  have HM : Hid (may h ws = (h.all (okCell h.length) && !ws.any (fun v => !isWord v h.length))) := Lib.hid (by unfold may; rw [all_not_any])
  have HC := Lib.hid C0
  have HCF := Lib.hid CF
  unfold ChkPost at CK
  clear C0 hr hrw hh hu hb CF
  generalize checkE h = ce at *
  generalize checkI h = ci at *
  generalize ws.any (fun v => !isWord v h.length) = bw at *
  generalize h.all (okCell h.length) = bh at *
  generalize may h ws = mh at *
  generalize h.length = hl at *
  rcases HOR with rfl | rfl
  · have hbh := Lib.hid (HE.1 rfl)
    clear HE
    go_enter Tryd.func62, Tryd.ntmps62
    go_wp2_with fail
    refine CK.mono ?_
    rintro e w2 ⟨rfl, h2⟩
    have CF := HCF.out w2 h2
    have ht2 := h2.cell ht (by simp)
    have H2 := Lib.hid h2
    clear h2 ht CK
    go_wp2_with fail
    refine CF.mono ?_
    rintro e w3 ⟨rfl, rfl⟩
    go_wp2_with fail
    go_ret
    exact ⟨by rw [HM.out, hbh.out]; rfl, HC.out.trans H2.out (by simp)⟩
  · have hbh : bh = false := by
      cases hb : bh with
      | false => rfl
      | true => have := HE.2 hb; omega
    replace hbh := Lib.hid hbh
    clear HE
    go_enter Tryd.func62, Tryd.ntmps62
    go_wp2_with fail
    refine CK.mono ?_
    rintro e w2 ⟨rfl, h2⟩
    have ht2 := h2.cell ht (by simp)
    have H2 := Lib.hid h2
    clear h2 ht CK
    go_wp2_with fail
    go_ret
    exact ⟨by rw [HM.out, hbh.out]; rfl, HC.out.trans H2.out (by simp)⟩
end Go.Proofs.YtggijcebobjghaaDoor.Gr
