/-
  THE WALKS of each, named for far's closure: a state that may be stepped so many times more. (Written by wip/gen_graph6.py out of XGraph1.)
-/
import Derived.Test.YtggijcebobjghaaDoorQJReachP
set_option linter.unusedVariables false
set_option linter.unusedSimpArgs false
set_option maxRecDepth 100000
namespace Go.Proofs.YtggijcebobjghaaDoor.Gr
open Go.RowKit Go.Proofs.YtggijcebobjghaaDoor.Wd Go.Proofs.YtggijcebobjghaaDoor.Hp Go.Proofs.YtggijcebobjghaaDoor.Gp Go.Proofs.YtggijcebobjghaaDoor.Sm
def StepsB {α : Type} (F x y : Nat) (I : Nat → World → α → List Nat → Prop) (f : α → Nat → α) (ok : Nat → Prop) : Prop :=
  ∀ b w s T c, I (b + 1) w s T → ok c → Calls Tryd.prog F #[.int .i64 ((c : Nat) : Int), .pointer (some ⟨x, 0, none⟩), .pointer (some ⟨y, 0, none⟩)] w fun e w' => e = .returned (.tuple #[]) ∧ ∃ T', I b w' (f s c) T' ∧ Ch T w w' ∧ ∀ t ∈ T', t ∈ T ∨ w.heap.size ≤ t
set_option maxHeartbeats 1000000 in
theorem each_farB {α : Type} (x y : Nat) (I : Nat → World → α → List Nat → Prop) (f : α → Nat → α) (ok : Nat → Prop) (hs : StepsB 81 x y I f ok) (hmono : ∀ b w s T, I (b + 1) w s T → I b w s T) (b : Nat) (w : World) (s : α) (T : List Nat) (ao : Option Addr) (n cap : Nat) (hI : I (b + n) w s T) (ws : List Int) (hn : n ≤ 1000000)
    (hr : RdF w ao n (ints .u64 ws) T) (hb : Bnd w) (hbT : 0 ∉ T) (hu : ∀ v ∈ ws, u64 v) (hok : ∀ v ∈ ws, isRef v = true → ok (cellN v).toNat) :
    Calls Tryd.prog 65 #[.func (.func 81) #[] #[.pointer (some ⟨x, 0, none⟩), .pointer (some ⟨y, 0, none⟩)], .slice ao n cap] w (EachPost (I b) w (eachW f s ws) T) := by
  have hl : ws.length = n := by simpa [ints] using hr.1
  have HS := Lib.hid hs
  have HMO := Lib.hid hmono
  obtain ⟨bu, hbu⟩ : ∃ bu, bu = b := ⟨_, rfl⟩
  rw [← hbu] at hI ⊢
  have HI := Lib.hid hI
  have HR := Lib.hid hr
  have HB := Lib.hid hb
  have HBT := Lib.hid hbT
  have HU := Lib.hid hu
  have HOK := Lib.hid hok
  have HL := Lib.hid hl
  clear hbu hmono b hs hI hr hb hbT hu hok hl
  go_enter Tryd.func65, Tryd.ntmps65
  go_wp2_with fail
  go_loopw [10] (fun i wr => ∃ (k : Nat) (T' : List Nat), k ≤ n ∧ i = .int .i64 k ∧ I (bu + (n - k)) wr (eachW f s (ws.take k)) T' ∧ Ch T w wr ∧ ∀ t ∈ T', t ∈ T ∨ w.heap.size ≤ t) (fun i _ => n - (intOf i).toNat)
  case atStart => exact ⟨0, T, by omega, rfl, by simpa [eachW] using HI.out, Ch.refl _ _, fun t ht => .inl ht⟩
  case round =>
    obtain ⟨k, T', hk, rfl, hI, hc, hT⟩ := hrel
    have HI2 := Lib.hid hI
    have HC := Lib.hid hc
    have HT := Lib.hid hT
    clear hI hc hT HI
    by_cases hlt : k < n
    · have hg : ∃ v, v = ws.getD k 0 := ⟨_, rfl⟩
      obtain ⟨v, hv⟩ := hg
      have hkl : k < ws.length := by rw [HL.out]; exact hlt
      have hvm : v ∈ ws := by rw [hv, show ws.getD k 0 = ws[k] by simp [List.getD, hkl]]; exact List.getElem_mem hkl
      have huv := HU.out v hvm
      obtain ⟨b, off, rfl, hbn, hj⟩ := HR.out.2.resolve_left (by omega)
      have c1 := HC.out.cell ((hj k hlt).trans ((ints_get hkl).trans (by rw [← hv]))) hbn
      have BD := Bnd.ch HB.out HC.out HBT.out
      have CC := Wd.Cell_any wr v huv.1 huv.2 BD
      have hrg := cellN_range v
      have htk : ws.take (k + 1) = ws.take k ++ [v] := by rw [List.take_succ_eq_append_getElem hkl, hv]; simp [List.getD, hkl]
      have HTK := Lib.hid htk
      have HVM := Lib.hid hvm
      have ltI : (k : Int) < n := by omega
      clear hj hbn BD htk hv hvm huv hkl
      cases href : isRef v
      · rw [href] at CC
        have HREF := Lib.hid href
        clear href
        generalize cellN v = cv at *
        go_wp2_with fail
        refine CC.mono ?_
        rintro e w2 ⟨rfl, rfl⟩
        clear CC
        go_wp2_with fail
        go_roundw
        case rel => exact ⟨k + 1, T', by omega, by go_num, by rw [HTK.out, eachW_snoc, HREF.out]; exact HMO.out _ _ _ _ (by rw [show bu + (n - (k + 1)) + 1 = bu + (n - k) by omega]; exact HI2.out), HC.out, HT.out⟩
        case measure => simp [intOf]; omega
      · rw [href] at CC
        have ok1 := HOK.out v HVM.out href
        have ST := HS.out (bu + (n - (k + 1))) wr _ T' _ (by rw [show bu + (n - (k + 1)) + 1 = bu + (n - k) by omega]; exact HI2.out) ok1
        have HREF := Lib.hid href
        obtain ⟨cn, hcn⟩ : ∃ cn : Nat, cn = (cellN v).toNat := ⟨_, rfl⟩
        have hcv : cellN v = (cn : Int) := by omega
        rw [← hcn] at ST
        rw [hcv] at CC
        have HCN := Lib.hid hcn
        clear href hcn hcv ok1 hrg
        go_wp2_with fail
        refine CC.mono ?_
        rintro e w2 ⟨rfl, rfl⟩
        clear CC
        go_wp2_with fail
        refine ST.mono ?_
        rintro e w2 ⟨rfl, T2, g1, g2, g3⟩
        have hI3 : I (bu + (n - (k + 1))) w2 (eachW f s (ws.take (k + 1))) T2 := by rw [HTK.out, eachW_snoc, HREF.out, if_pos rfl, ← HCN.out]; exact g1
        have HI3 := Lib.hid hI3
        have HC3 := Lib.hid (HC.out.trans g2 HT.out)
        have HT3 : Hid (∀ t ∈ T2, t ∈ T ∨ w.heap.size ≤ t) := Lib.hid (fun t ht => by
          rcases g3 t ht with h | h
          · exact HT.out t h
          · exact .inr (Nat.le_trans HC.out.size h))
        clear ST g1 g2 g3 hI3 HI2 HC HT c1
        go_wp2_with fail
        go_roundw
        case rel => exact ⟨k + 1, T2, by omega, by go_num, HI3.out, HC3.out, HT3.out⟩
        case measure => simp [intOf]; omega
    · obtain rfl : n = k := by omega
      have h2 := HI2.out
      rw [List.take_of_length_le (by rw [HL.out]; exact Nat.le_refl _), Nat.sub_self, Nat.add_zero] at h2
      have HI3 := Lib.hid h2
      clear h2
      go_wp2_with fail
      go_end0
      exact ⟨rfl, T', HI3.out, HC.out, HT.out⟩
set_option maxHeartbeats 1000000 in
theorem named_farB {α : Type} (x y : Nat) (I : Nat → World → α → List Nat → Prop) (f : α → Nat → α) (ok : Nat → Prop) (hs : StepsB 81 x y I f ok) (hmono : ∀ b w s T, I (b + 1) w s T → I b w s T) (hst : ∀ b w w' s T, I b w s T → Ch [] w w' → I b w' s T) (bu : Nat) (w : World) (s : α) (T : List Nat) (hI : I (bu + 2) w s T) (hTl : ∀ t ∈ T, t < w.heap.size) (ao : Option Addr) (cap : Nat) (h : List Cel) (c : Nat) (hc : c < h.length) (hn : h.length ≤ 1000000)
    (hr : RdF w ao (h.length * 4) (flat h) T) (hh : ∀ x ∈ h, InR x) (hb : Bnd w) (hbT : 0 ∉ T) (hok : ∀ v ∈ wordsOf h c, isRef v = true → ok (cellN v).toNat) :
    Calls Tryd.prog 66 #[.slice ao h.length cap, .int .i64 c, .func (.func 81) #[] #[.pointer (some ⟨x, 0, none⟩), .pointer (some ⟨y, 0, none⟩)]] w (EachPost (I bu) w (named h f s c) T) := by
  obtain ⟨b, off, rfl, hbn, hj⟩ := hr.2.resolve_left (by omega)
  have hA : ∀ t, t < 4 → w.cell? ⟨b, off + (c * 4 + t), none⟩ = (celV (h.getD c z))[t]? := fun t ht => (hj _ (by omega)).trans (flat_get h c t hc ht)
  have a0 := hA 0 (by omega)
  have a1 := hA 1 (by omega)
  have a2 := hA 2 (by omega)
  have a3 := hA 3 (by omega)
  have hw0 : wordsOf h c = if (h.getD c z).k = 0 then [] else [(h.getD c z).a, (h.getD c z).b] := rfl
  have hwu := wordsOf_u hh c hc
  unfold named
  have hcl : (c : Int) < h.length := by omega
  generalize hwv : wordsOf h c = ws at *
  generalize h.getD c z = cx at *
  obtain ⟨ck, cc, ca, cb⟩ := cx
  simp only [celV, List.getElem?_cons_zero, List.getElem?_cons_succ, Nat.add_zero, ← Nat.add_assoc] at a0 a1 a2 a3 hw0
  have CA : Ch [] w (w.alloc (.cells #[.int .u8 ck, .int .u8 cc, .int .u64 ca, .int .u64 cb] 55)) := (Ch.refl _ _).alloc _
  generalize h.length = n at *
  by_cases hk : ck = 0
  · subst hk
    rw [if_pos rfl] at hw0
    subst hw0
    have P : Hid (EachPost (I bu) w (eachW f s []) T (.returned (.tuple #[])) (w.alloc (.cells #[.int .u8 0, .int .u8 cc, .int .u64 ca, .int .u64 cb] 55))) := Lib.hid ⟨rfl, T, hst _ _ _ _ _ (hmono _ _ _ _ (hmono _ _ _ _ hI)) CA, CA.mono (by simp), fun t ht => .inl ht⟩
    clear hs hst hmono hI hTl hr hh hb hbT hok hj hA hwu hbn CA hwv
    go_enter Tryd.func66, Tryd.ntmps66
    go_wp2_with fail
    go_end0
    exact P.out
  · have hk' : (ck != 0) = true := by simpa using hk
    rw [if_neg hk] at hw0
    have CB : Ch [] w ((w.alloc (.cells #[.int .u8 ck, .int .u8 cc, .int .u64 ca, .int .u64 cb] 55)).alloc (.cells #[.int .u64 ca, .int .u64 cb] 53)) := CA.alloc _
    have gT : ∀ t ∈ T, t < w.heap.size := hTl
    have EE := each_farB x y I f ok hs hmono bu _ s T (some ⟨w.heap.size + 1, 0, none⟩) 2 2 (hst _ _ _ _ _ hI CB) ws (by omega) ⟨by rw [hw0]; rfl, .inr ⟨w.heap.size + 1, 0, rfl, fun hm => by have := gT _ hm; omega, fun j hj => by
      have hh := heap_new (w.alloc (.cells #[.int .u8 ck, .int .u8 cc, .int .u64 ca, .int .u64 cb] 55)) (.cells #[.int .u64 ca, .int .u64 cb] 53)
      rw [show (w.alloc (.cells #[.int .u8 ck, .int .u8 cc, .int .u64 ca, .int .u64 cb] 55)).heap.size = w.heap.size + 1 by simp] at hh
      rw [cell_at hh, hw0, Nat.zero_add, List.getElem?_toArray]; rfl⟩⟩ (Bnd.ch hb CB (by simp)) hbT hwu hok
    have HCB := Lib.hid CB
    clear hs hst hmono hI hTl hr hh hb hbT hok hj hA hwu hbn CA CB hwv hw0 hk gT
    go_enter Tryd.func66, Tryd.ntmps66
    go_wp2_with fail
    refine EE.mono ?_
    rintro e w2 ⟨rfl, T', g1, g2, g3⟩
    have P : Hid (EachPost (I bu) w (eachW f s ws) T (.returned (.tuple #[])) w2) := Lib.hid ⟨rfl, T', g1, (HCB.out.mono (by simp)).trans g2 (fun t ht => .inl ht), fun t ht => (g3 t ht).imp id (fun h => Nat.le_trans HCB.out.size h)⟩
    clear EE g1 g2 g3 HCB
    go_wp2_with fail
    go_end0
    exact P.out
end Go.Proofs.YtggijcebobjghaaDoor.Gr
