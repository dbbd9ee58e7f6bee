/-
  THE WALK of dapplelaw10.names and way.
-/
import Derived.Test.YtggijcebobjghaaDoorQPathP2
import Derived.Test.YtggijcebobjghaaDoorQJRef10b
import Derived.BigQuiet
import Derived.Deep.RegionWith
set_option linter.unusedVariables false
set_option linter.unusedSimpArgs false
set_option maxRecDepth 100000
namespace Go.Proofs.YtggijcebobjghaaDoor.L10
open Go.RowKit Go.Proofs.YtggijcebobjghaaDoor.Wd Go.Proofs.YtggijcebobjghaaDoor.Hp Go.Proofs.YtggijcebobjghaaDoor.Gp Go.Proofs.YtggijcebobjghaaDoor.Sm Go.Proofs.YtggijcebobjghaaDoor.Gr Go.Proofs.YtggijcebobjghaaDoor.Pa
def nmB (x c : Int) : Bool := isRef x && decide (cellN x = c)
theorem names_any (w : World) (x c : Int) (hx : Gp.u64 x) :
    Calls Tryd.prog 71 #[.int .u64 x, .int .i64 c] w fun e w' => e = .returned (.bool (nmB x c)) ∧ w' = w := by
  have CC := Rd.Cell_any w x hx.1 hx.2
  have HE : Hid (nmB x c = (isRef x && decide (cellN x = c))) := Lib.hid rfl
  clear hx
  generalize isRef x = b at *
  generalize cellN x = y at *
  cases b
  all_goals
    go_enter Tryd.func71, Tryd.ntmps71
    go_wp2_with fail
    refine CC.mono ?_
    rintro e w2 ⟨rfl, rfl⟩
    go_wp2_with fail
    go_ret
    exact ⟨by rw [HE.out]; rfl, rfl⟩
theorem nm_nf {h : List Cel} {x y : Nat} (hm : y ∈ nf h x) : (h.getD x z).k ≠ 0 ∧ (nmB (h.getD x z).a y || nmB (h.getD x z).b y) = true := by
  obtain ⟨v, h1, h2, h3⟩ := refs_mem.1 hm
  unfold wordsOf at h1
  split at h1
  · cases h1
  · next hk =>
    have hv : nmB v y = true := by
      unfold nmB
      have := cellN_range v
      rw [h2]; simp; omega
    simp only [List.mem_cons, List.not_mem_nil, or_false] at h1
    refine ⟨hk, ?_⟩
    rcases h1 with rfl | rfl
    · rw [hv]; rfl
    · rw [hv]; simp
def anyN (ws : List Int) (c : Int) (k : Nat) : Bool := (ws.take k).any (fun x => nmB x c)
theorem anyN_next (ws : List Int) (c : Int) (k : Nat) (hk : k < ws.length) : anyN ws c (k + 1) = (anyN ws c k || nmB (ws.getD k 0) c) := by
  unfold anyN
  rw [take_snoc ws k 0 hk, List.any_append]
  simp
theorem anyN_all {ws : List Int} {b : Nat} (h : b ∈ refs ws) : anyN ws b ws.length = true := by
  obtain ⟨v, h1, h2, h3⟩ := refs_mem.1 h
  unfold anyN
  rw [List.take_length, List.any_eq_true]
  refine ⟨v, h1, ?_⟩
  have := cellN_range v
  unfold nmB
  rw [h2]; simp; omega
set_option maxHeartbeats 4000000 in
theorem way_any (w : World) (ao ap aw : Option Addr) (cap cp cw : Nat) (h : List Cel) (ws : List Int) (m : Nat) (to k : Nat) (P : List Nat) (hn : h.length ≤ 1000000) (hm : m ≤ 1000000) (hk : k < h.length)
    (hr : RdF w ao (h.length * 4) (flat h) []) (hp : RdF w ap (k + 1) (iv (P.map (fun (c : Nat) => (c : Int)))) []) (hrw : RdF w aw m (ints .u64 ws) []) (hh : ∀ x ∈ h, InR x) (hu : ∀ v ∈ ws, Gp.u64 v) (hw : PWay h (refs ws) to k P) :
    Calls Tryd.prog 25 #[.slice ao h.length cap, .slice ap (k + 1) cp, .int .i64 to, .slice aw m cw] w fun e w' => e = .returned (.bool true) ∧ Ch [] w w' := by
  have hwl : ws.length = m := by simpa [ints] using hrw.1
  obtain ⟨b0, hb0, hP0⟩ := hw.beg
  obtain ⟨bp, op, rfl, hpn, hpj⟩ := hp.2.resolve_left (by omega)
  have HP : Hid (∀ (W : World) (j c : Nat), Ch [] w W → P[j]? = some c → W.cell? ⟨bp, op + j, none⟩ = some (.int .i64 c)) := Lib.hid (fun W j c hc hj => by
    have hjk : j < k + 1 := by
      have := (List.getElem?_eq_some_iff.1 hj).1
      rw [hw.len] at this; exact this
    exact hc.cell (by rw [hpj j hjk]; simp [iv, hj]) (by simp))
  have HN : Hid (∀ j x y : Nat, P[j]? = some x → P[j + 1]? = some y → x < h.length ∧ (h.getD x z).k ≠ 0 ∧ (nmB (h.getD x z).a y || nmB (h.getD x z).b y) = true) := Lib.hid (fun j x y hx hy => ⟨hw.lt x (List.mem_of_getElem? hx), nm_nf (hw.chn j x y hx hy)⟩)
  have HL : Hid (∀ j, j < k + 1 → ∃ c, P[j]? = some c) := Lib.hid (fun j hj => ⟨_, List.getElem?_eq_getElem (by rw [hw.len]; exact hj)⟩)
  have p0 := HP.out w 0 b0 (Ch.refl _ _) hP0
  have pk := HP.out w k to (Ch.refl _ _) hw.fin
  have HP0 := Lib.hid hP0
  have HAN := Lib.hid (anyN_all hb0)
  rw [hwl] at HAN
  have HR := Lib.hid hr
  have HRW := Lib.hid hrw
  have HH := Lib.hid hh
  have HU := Lib.hid hu
  have HWL := Lib.hid hwl
  obtain ⟨n, hnl⟩ : ∃ n, n = h.length := ⟨_, rfl⟩
  rw [← hnl] at hn hk ⊢
  have HNL := Lib.hid hnl
  have hkI : ((k : Int) + 1 - 1) = k := by omega
  clear hr hrw hh hu hwl hnl hw hb0 hP0 hp hpn hpj
  rw [Nat.add_zero] at p0
  go_enter Tryd.func25, Tryd.ntmps25
  go_wp2_with fail
  go_loopw [10, 9] (fun i v wr => ∃ (j d : Nat), i = .int .i64 j ∧ j ≤ m ∧ v = .bool (anyN ws b0 j) ∧ wr = w.drewN d) (fun i _ _ => m - (intOf i).toNat)
  case atStart => exact ⟨0, 0, rfl, by omega, rfl, rfl⟩
  case round =>
    obtain ⟨j, d, rfl, hj, rfl, rfl⟩ := hrel
    by_cases hlt : j < m
    · as_aux_lemma =>
      have ltI : (j : Int) < m := by omega
      have hjl : j < ws.length := by rw [HWL.out]; exact hlt
      obtain ⟨bw, ow, rfl, _, hwj⟩ := HRW.out.2.resolve_left (by omega)
      have a1 := (hwj j hlt)
      rw [show (ints .u64 ws)[j]? = some (.int .u64 (ws.getD j 0)) by simp [ints, hjl]] at a1
      have NX := Lib.hid (anyN_next ws b0 j hjl)
      have hxu : Gp.u64 (ws.getD j 0) := HU.out _ (by simp [List.getD_eq_getElem?_getD, hjl])
      generalize ws.getD j 0 = x at *
      have a2 : (w.drewN d).cell? ⟨bw, ow + j, none⟩ = some (.int .u64 x) := a1
      have a3 : (w.drewN d).cell? ⟨bp, op, none⟩ = some (.int .i64 b0) := p0
      have HXU := Lib.hid hxu
      clear hwj a1 hxu p0 pk
      obtain ⟨wd, hwd⟩ : ∃ wd, wd = w.drewN d := ⟨_, rfl⟩
      rw [← hwd] at a2 a3 ⊢
      have HW := Lib.hid hwd
      clear hwd
      generalize anyN ws b0 j = bb at *
      generalize hnx : anyN ws b0 (j + 1) = bn at *
      have HNX := Lib.hid hnx
      clear hnx
      cases bb
      · go_wp2_with fail
        go_quiet (first | (go_at_call 71; refine Calls.quiet_of_same (names_any _ x b0 HXU.out)))
        go_wp2_with fail
        go_roundw
        case rel => exact ⟨j + 1, _, by go_num, by omega, by rw [HNX.out, NX.out]; simp, by rw [HW.out, World.drewN_drewN]⟩
        case measure => simp [intOf]; omega
      · go_wp2_with fail
        go_quiet (fail)
        go_wp2_with fail
        go_roundw
        case rel => exact ⟨j + 1, _, by go_num, by omega, by rw [HNX.out, NX.out]; simp, by rw [HW.out, World.drewN_drewN]⟩
        case measure => simp [intOf]; omega
    · as_aux_lemma =>
      obtain rfl : m = j := by omega
      have ltI : ¬ (m : Int) < m := by omega
      have C1 : Ch [] w (w.drewN d) := (Ch.refl _ _).drewN d
      have HC1 := Lib.hid C1
      rw [HAN.out]
      clear p0 pk C1 HAN HRW HU
      generalize w.drewN d = w1 at *
      obtain ⟨N, hN⟩ : ∃ N, N = k + 1 := ⟨_, rfl⟩
      rw [← hN]
      have HNK := Lib.hid hN
      have hN6 : N ≤ 1000000 := by omega
      clear hN hkI
      go_wp2_with fail
      go_loopw [11] (fun i wr => ∃ (jj : Nat), i = .int .i64 jj ∧ 1 ≤ jj ∧ jj ≤ N ∧ Ch [] w wr) (fun i _ => N - (intOf i).toNat)
      case atStart => exact ⟨1, rfl, by omega, by have := HNK.out; omega, HC1.out⟩
      case round =>
        obtain ⟨jj, rfl, hj1, hj, hc⟩ := hrel
        by_cases hlt : jj < N
        · as_aux_lemma =>
          have ltI2 : (jj : Int) < N := by omega
          obtain ⟨j, hjj⟩ : ∃ j, jj = j + 1 := ⟨jj - 1, by omega⟩
          have ltJ : (j : Int) < N := by omega
          have HNK2 := HNK.out
          obtain ⟨x, hx⟩ := HL.out j (by omega)
          obtain ⟨y, hy⟩ := HL.out (j + 1) (by omega)
          obtain ⟨e1, e2, e3⟩ := HN.out j x y hx hy
          have a1 := HP.out wr j x hc hx
          obtain ⟨bh, oh, rfl, hbn, hhj⟩ := HR.out.2.resolve_left (by omega)
          have hA : ∀ t, t < 4 → wr.cell? ⟨bh, oh + (x * 4 + t), none⟩ = (celV (h.getD x z))[t]? := fun t ht => by
            have h3 := (hhj (x * 4 + t) (by omega)).trans (flat_get h x t e1 ht)
            rw [List.getElem?_eq_getElem (by simp [celV]; omega)] at h3 ⊢
            exact hc.cell h3 (by simp)
          have d0 := hA 0 (by omega)
          have d1 := hA 1 (by omega)
          have d2 := hA 2 (by omega)
          have d3 := hA 3 (by omega)
          obtain ⟨_, _, _, _, i5, i6⟩ := InR.at HH.out x e1
          have I5 := Lib.hid i5
          have I6 := Lib.hid i6
          have ltX : (x : Int) < n := by rw [HNL.out]; omega
          generalize h.getD x z = cel at *
          obtain ⟨ck, cc, ca, cb⟩ := cel
          simp only [celV, List.getElem?_cons_zero, List.getElem?_cons_succ, Nat.add_zero, ← Nat.add_assoc] at d0 d1 d2 d3
          have CA := (Ch.refl [] wr).alloc (.cells #[.int .u8 ck, .int .u8 cc, .int .u64 ca, .int .u64 cb] 55)
          have b2 := HP.out _ (j + 1) y (hc.trans' CA) hy
          rw [← hjj] at b2
          have HCA := Lib.hid CA
          have HCN := Lib.hid (hc.trans' CA)
          have hsub : ((jj : Int) - 1) = j := by omega
          have HJJ := Lib.hid hjj
          have hk0 : (ck == 0) = false := by simpa using e2
          clear hA hbn hhj hx hy e1 i5 i6 hc CA e2 HNK2 hjj
          have NA := Lib.hid (fun w => names_any w ca y I5.out)
          have NB := Lib.hid (fun w => names_any w cb y I6.out)
          generalize nmB ca y = na at *
          generalize nmB cb y = nb at *
          cases na
          · obtain rfl : nb = true := by simpa using e3
            clear e3
            go_wp2_with fail
            go_quiet (first | (go_at_call_of 71 (Value.int .u64 ca); refine Calls.quiet_of_same (NA.out _)) | (go_at_call_of 71 (Value.int .u64 cb); refine Calls.quiet_of_same (NB.out _)))
            go_wp2_with fail
            go_roundw
            case rel => exact ⟨jj + 1, by go_num, by omega, by omega, HCN.out.drewN _⟩
            case measure => simp [intOf]; omega
          · clear e3
            go_wp2_with fail
            go_quiet (first | (go_at_call_of 71 (Value.int .u64 ca); refine Calls.quiet_of_same (NA.out _)) | (go_at_call_of 71 (Value.int .u64 cb); refine Calls.quiet_of_same (NB.out _)))
            go_wp2_with fail
            go_roundw
            case rel => exact ⟨jj + 1, by go_num, by omega, by omega, HCN.out.drewN _⟩
            case measure => simp [intOf]; omega
        · as_aux_lemma =>
          have ltI2 : ¬ (jj : Int) < N := by omega
          have HC := Lib.hid hc
          clear hc
          go_wp2_with fail
          go_ret
          exact ⟨rfl, HC.out⟩
end Go.Proofs.YtggijcebobjghaaDoor.L10
