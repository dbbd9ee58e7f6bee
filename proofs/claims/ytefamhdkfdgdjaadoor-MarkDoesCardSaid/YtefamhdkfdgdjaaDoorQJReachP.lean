/-
  PLAIN LAWS (no program): a heap of cells as a list; what is reached, as graph.order meets it.
  THE WALKS of package graph: isWord; each, named, for whatever they hand cells to.
  THE WALKS of graph.Check, may.
  THE WALK of graph.order.
  THE WALKS of graph.Reach, Order, Form.
  THE WALK of graph.Form.
  PLAIN LAWS (no program): the reference's Order goes along ONE row of words; it meets what graph.order meets, in the same order.
  PLAIN LAWS (no program): what graph.order meets is just what is reached.
-/
import Derived.Test.YtefamhdkfdgdjaaDoorQJWords
import Derived.Test.YtefamhdkfdgdjaaDoorQJApp
import Derived.StillTail
import Derived.StillTactics
set_option linter.unusedVariables false
set_option linter.unusedSimpArgs false
namespace Go.Proofs.YtefamhdkfdgdjaaDoor.Gp
open Go.RowKit Go.Proofs.YtefamhdkfdgdjaaDoor.Wd Go.Proofs.YtefamhdkfdgdjaaDoor.Hp

structure Cel where
  k : Int
  c : Int
  a : Int
  b : Int
  deriving DecidableEq
def z : Cel := ⟨0, 0, 0, 0⟩
def celV (x : Cel) : List Value := [.int .u8 x.k, .int .u8 x.c, .int .u64 x.a, .int .u64 x.b]
def flat (l : List Cel) : List Value := l.flatMap celV
theorem flat_len : ∀ l : List Cel, (flat l).length = l.length * 4
  | [] => rfl
  | x :: l => by simp only [flat, List.flatMap_cons, List.length_append, List.length_cons]; have := flat_len l; simp only [flat] at this; rw [this]; simp [celV]; omega
theorem flat_get : ∀ (l : List Cel) (i t : Nat), i < l.length → t < 4 → (flat l)[i * 4 + t]? = (celV (l.getD i z))[t]?
  | [], i, t, h, _ => absurd h (by simp)
  | x :: l, 0, t, _, ht => by
    simp only [flat, List.flatMap_cons, List.getD_cons_zero, Nat.zero_mul, Nat.zero_add]
    rw [List.getElem?_append_left (by simp [celV]; omega)]
  | x :: l, i + 1, t, h, ht => by
    simp only [flat, List.flatMap_cons, List.getD_cons_succ]
    rw [List.getElem?_append_right (by simp [celV]; omega)]
    have := flat_get l i t (by simpa using h) ht
    simp only [flat] at this
    rw [← this]
    congr 1
    simp [celV]; omega
theorem flat_append (a b : List Cel) : flat (a ++ b) = flat a ++ flat b := by simp [flat]
def u64 (x : Int) : Prop := 0 ≤ x ∧ x < 18446744073709551616
def InR (x : Cel) : Prop := 0 ≤ x.k ∧ x.k < 256 ∧ 0 ≤ x.c ∧ x.c < 256 ∧ u64 x.a ∧ u64 x.b
theorem InR.at {l : List Cel} (h : ∀ x ∈ l, InR x) (i : Nat) (hi : i < l.length) : InR (l.getD i z) := by
  rw [show l.getD i z = l[i] by simp [List.getD, hi]]; exact h _ (List.getElem_mem hi)

/-- May a word stand in a heap of n cells? -/
def isWord (w : Int) (n : Nat) : Bool := ofOk w && (!isRef w || decide (cellN w < n))
def okCell (n : Nat) (x : Cel) : Bool := !(decide (3 < x.k)) && !(decide (2 < x.c)) && (x.k == 0 || (isWord x.a n && isWord x.b n))
/-- The first cell that may not be. -/
def badAt (n : Nat) : List Cel → Nat → Option Nat
  | [], _ => none
  | x :: l, i => if okCell n x then badAt n l (i + 1) else some i
def may (h : List Cel) (roots : List Int) : Bool := h.all (okCell h.length) && roots.all (fun w => isWord w h.length)

abbrev St := List Bool × List Nat
def meet (s : St) (c : Nat) : St := if s.1.getD c true then s else (s.1.set c true, s.2 ++ [c])
def eachW {α : Type} (f : α → Nat → α) (s : α) (l : List Int) : α := l.foldl (fun s w => if isRef w then f s (cellN w).toNat else s) s
def wordsOf (h : List Cel) (c : Nat) : List Int := if (h.getD c z).k = 0 then [] else [(h.getD c z).a, (h.getD c z).b]
def named {α : Type} (h : List Cel) (f : α → Nat → α) (s : α) (c : Nat) : α := eachW f s (wordsOf h c)
/-- From the i-th one on. -/
def orderL (h : List Cel) : Nat → Nat → St → St
  | 0, _, s => s
  | k + 1, i, s => if i < s.2.length then orderL h k (i + 1) (named h meet s (s.2.getD i 0)) else s
def order (h : List Cel) (roots : List Int) : St := orderL h (h.length + 1) 0 (eachW meet (List.replicate h.length false, []) roots)

/-- What is so of every state: each cell at most once, and just those that are met. -/
structure Inv (n : Nat) (s : St) : Prop where
  len : s.1.length = n
  nd : s.2.Nodup
  mem : ∀ c, c ∈ s.2 ↔ c < n ∧ s.1.getD c true = true
theorem Inv.start (n : Nat) : Inv n (List.replicate n false, []) := by
  refine ⟨by simp, List.nodup_nil, fun c => ?_⟩
  constructor
  · intro h; cases h
  · rintro ⟨h1, h2⟩
    simp [List.getD_eq_getElem?_getD, h1] at h2
theorem Inv.meet {n : Nat} {s : St} (h : Inv n s) (c : Nat) (hc : c < n) : Inv n (meet s c) := by
  unfold Gp.meet
  cases hm : s.1.getD c true
  · simp only [Bool.false_eq_true, if_false]
    have hnm : c ∉ s.2 := fun hx => by have := ((h.mem c).1 hx).2; rw [hm] at this; cases this
    have hl := h.len
    refine ⟨by simpa using h.len, ?_, fun x => ?_⟩
    · rw [List.nodup_append]
      exact ⟨h.nd, by simp, fun a ha b hb => by simp at hb; subst hb; exact fun e => hnm (e ▸ ha)⟩
    · rw [List.mem_append, List.mem_singleton, h.mem x]
      by_cases e : x = c
      · subst e; simp [hc, List.getD_eq_getElem?_getD, show x < s.1.length by omega]
      · simp only [List.getD_eq_getElem?_getD, List.getElem?_set_ne (Ne.symm e), e, or_false]
  · simp only [if_true]; exact h
theorem Inv.le {n : Nat} {s : St} (h : Inv n s) : s.2.length ≤ n := by
  have hs : ∀ x ∈ s.2, x ∈ List.range n := fun x hx => List.mem_range.2 ((h.mem x).1 hx).1
  have := h.nd.length_le_of_subset hs
  simpa using this
end Go.Proofs.YtefamhdkfdgdjaaDoor.Gp

set_option linter.unusedVariables false
set_option linter.unusedSimpArgs false
set_option maxRecDepth 100000
namespace Go.Proofs.YtefamhdkfdgdjaaDoor.Gr
open Go.RowKit Go.Proofs.YtefamhdkfdgdjaaDoor.Wd Go.Proofs.YtefamhdkfdgdjaaDoor.Hp Go.Proofs.YtefamhdkfdgdjaaDoor.Gp Go.Proofs.YtefamhdkfdgdjaaDoor.Sm

theorem Bnd.ch {w w' : World} {T : List Nat} (h : Bnd w) (hc : Ch T w w') (hT : 0 ∉ T) : Bnd w' := fun t ht => ⟨hc.cell (h t ht).1 hT, hc.cell (h t ht).2 hT⟩
/-- A slice that reads as xs, in a block that is none of T. -/
def RdF (w : World) (ao : Option Addr) (m : Nat) (xs : List Value) (T : List Nat) : Prop := xs.length = m ∧ (m = 0 ∨ ∃ b off, ao = some ⟨b, off, none⟩ ∧ b ∉ T ∧ ∀ j, j < m → w.cell? ⟨b, off + j, none⟩ = xs[j]?)
theorem RdF.ch {w w' : World} {ao : Option Addr} {m : Nat} {xs : List Value} {T T' : List Nat} (h : RdF w ao m xs T) (hc : Ch T w w') (hT : ∀ t ∈ T', t ∈ T ∨ w.heap.size ≤ t) : RdF w' ao m xs T' := by
  obtain ⟨h1, h2⟩ := h
  refine ⟨h1, ?_⟩
  rcases h2 with h2 | ⟨b, off, ha, hb, hj⟩
  · exact .inl h2
  · by_cases h0 : m = 0
    · exact .inl h0
    · refine .inr ⟨b, off, ha, fun hm => ?_, fun j hlt => ?_⟩
      · rcases hT b hm with h | h
        · exact hb h
        · have h3 := hj 0 (by omega)
          rw [List.getElem?_eq_getElem (by omega)] at h3
          have := World.block_lt_of_cell? w _ h3
          simp at this; omega
      · have h3 := hj j hlt
        rw [List.getElem?_eq_getElem (by omega)] at h3 ⊢
        exact hc.cell h3 hb
theorem RdF.rd {w : World} {ao : Option Addr} {m : Nat} {xs : List Value} {T : List Nat} (h : RdF w ao m xs T) : Rd w ao m xs := ⟨h.1, h.2.imp id fun ⟨b, off, a, _, c⟩ => ⟨b, off, a, c⟩⟩

theorem isWord_any (w : World) (x : Int) (n : Nat) (hx : u64 x) (hb : Bnd w) :
    Calls Tryd.prog 95 #[.int .u64 x, .int .i64 n] w fun e w' => e = .returned (.bool (isWord x n)) ∧ w' = w := by
  have H1 := Of_any w x hx.1 hx.2 hb
  have H2 := Wd.Cell_any w x hx.1 hx.2 hb
  have hr := cellN_range x
  unfold isWord
  clear hb
  generalize ofOk x = o at *
  generalize isRef x = r at *
  generalize ofT x = t at *
  generalize ofN x = m at *
  generalize cellN x = c at *
  cases o <;> cases r
  · go_enter Tryd.func95, Tryd.ntmps95
    go_wp2_with (first | (go_at_call 62; refine H1.mono ?_; rintro e w' ⟨rfl, rfl⟩) | (go_at_call 63; refine H2.mono ?_; rintro e w' ⟨rfl, rfl⟩))
    go_ret
    exact ⟨rfl, rfl⟩
  · go_enter Tryd.func95, Tryd.ntmps95
    go_wp2_with (first | (go_at_call 62; refine H1.mono ?_; rintro e w' ⟨rfl, rfl⟩) | (go_at_call 63; refine H2.mono ?_; rintro e w' ⟨rfl, rfl⟩))
    go_ret
    exact ⟨rfl, rfl⟩
  · go_enter Tryd.func95, Tryd.ntmps95
    go_wp2_with (first | (go_at_call 62; refine H1.mono ?_; rintro e w' ⟨rfl, rfl⟩) | (go_at_call 63; refine H2.mono ?_; rintro e w' ⟨rfl, rfl⟩))
    go_ret
    exact ⟨rfl, rfl⟩
  · go_enter Tryd.func95, Tryd.ntmps95
    go_wp2_with (first | (go_at_call 62; refine H1.mono ?_; rintro e w' ⟨rfl, rfl⟩) | (go_at_call 63; refine H2.mono ?_; rintro e w' ⟨rfl, rfl⟩))
    go_ret
    exact ⟨by simp, rfl⟩

/-- What a function that is handed cells does: it goes on from state to state; of old memory it changes but its own blocks T. -/
def Steps {α : Type} (F x y : Nat) (I : World → α → List Nat → Prop) (f : α → Nat → α) (ok : Nat → Prop) : Prop :=
  ∀ w s T c, I w s T → ok c → Calls Tryd.prog F #[.int .i64 ((c : Nat) : Int), .pointer (some ⟨x, 0, none⟩), .pointer (some ⟨y, 0, none⟩)] w fun e w' => e = .returned (.tuple #[]) ∧ ∃ T', I w' (f s c) T' ∧ Ch T w w' ∧ ∀ t ∈ T', t ∈ T ∨ w.heap.size ≤ t
def EachPost {α : Type} (I : World → α → List Nat → Prop) (w : World) (s : α) (T : List Nat) (e : Ending) (w' : World) : Prop :=
  e = .returned (.tuple #[]) ∧ ∃ T', I w' s T' ∧ Ch T w w' ∧ ∀ t ∈ T', t ∈ T ∨ w.heap.size ≤ t
theorem eachW_snoc {α : Type} (f : α → Nat → α) (s : α) (l : List Int) (x : Int) : eachW f s (l ++ [x]) = if isRef x then f (eachW f s l) (cellN x).toNat else eachW f s l := by simp [eachW, List.foldl_append]
set_option maxHeartbeats 1000000 in
theorem each_order {α : Type} (x y : Nat) (I : World → α → List Nat → Prop) (f : α → Nat → α) (ok : Nat → Prop) (hs : Steps 96 x y I f ok) (w : World) (s : α) (T : List Nat) (hI : I w s T) (ao : Option Addr) (n cap : Nat) (ws : List Int) (hn : n ≤ 1000000)
    (hr : RdF w ao n (ints .u64 ws) T) (hb : Bnd w) (hbT : 0 ∉ T) (hu : ∀ v ∈ ws, u64 v) (hok : ∀ v ∈ ws, isRef v = true → ok (cellN v).toNat) :
    Calls Tryd.prog 97 #[.func (.func 96) #[] #[.pointer (some ⟨x, 0, none⟩), .pointer (some ⟨y, 0, none⟩)], .slice ao n cap] w (EachPost I w (eachW f s ws) T) := by
  have hl : ws.length = n := by simpa [ints] using hr.1
  have HS := Lib.hid hs
  have HI := Lib.hid hI
  have HR := Lib.hid hr
  have HB := Lib.hid hb
  have HBT := Lib.hid hbT
  have HU := Lib.hid hu
  have HOK := Lib.hid hok
  have HL := Lib.hid hl
  clear hs hI hr hb hbT hu hok hl
  go_enter Tryd.func97, Tryd.ntmps97
  go_wp2_with fail
  go_loopw [10] (fun i wr => ∃ (k : Nat) (T' : List Nat), k ≤ n ∧ i = .int .i64 k ∧ I wr (eachW f s (ws.take k)) T' ∧ Ch T w wr ∧ ∀ t ∈ T', t ∈ T ∨ w.heap.size ≤ t) (fun i _ => n - (intOf i).toNat)
  case atStart => exact ⟨0, T, by omega, rfl, by simpa [eachW] using HI.out, Ch.refl _ _, fun t ht => .inl ht⟩
  case round =>
    obtain ⟨k, T', hk, rfl, hI, hc, hT⟩ := hrel
    have HI2 := Lib.hid hI
    have HC := Lib.hid hc
    have HT := Lib.hid hT
    clear hI hc hT HI
    by_cases hlt : k < n
    · have hg : ∃ v, v = ws.getD k 0 := ⟨_, rfl⟩
      obtain ⟨v, hv⟩ := hg
      have hkl : k < ws.length := by rw [HL.out]; exact hlt
      have hvm : v ∈ ws := by rw [hv, show ws.getD k 0 = ws[k] by simp [List.getD, hkl]]; exact List.getElem_mem hkl
      have huv := HU.out v hvm
      obtain ⟨b, off, rfl, hbn, hj⟩ := HR.out.2.resolve_left (by omega)
      have c1 := HC.out.cell ((hj k hlt).trans ((ints_get hkl).trans (by rw [← hv]))) hbn
      have BD := Bnd.ch HB.out HC.out HBT.out
      have CC := Wd.Cell_any wr v huv.1 huv.2 BD
      have hrg := cellN_range v
      have htk : ws.take (k + 1) = ws.take k ++ [v] := by rw [List.take_succ_eq_append_getElem hkl, hv]; simp [List.getD, hkl]
      have HTK := Lib.hid htk
      have HVM := Lib.hid hvm
      have ltI : (k : Int) < n := by omega
      clear hj hbn BD htk hv hvm huv hkl
      cases href : isRef v
      · rw [href] at CC
        have HREF := Lib.hid href
        clear href
        generalize cellN v = cv at *
        go_wp2_with fail
        refine CC.mono ?_
        rintro e w2 ⟨rfl, rfl⟩
        clear CC
        go_wp2_with fail
        go_roundw
        case rel => exact ⟨k + 1, T', by omega, by go_num, by rw [HTK.out, eachW_snoc, HREF.out]; exact HI2.out, HC.out, HT.out⟩
        case measure => simp [intOf]; omega
      · rw [href] at CC
        have ok1 := HOK.out v HVM.out href
        have ST := HS.out wr _ T' _ HI2.out ok1
        have HREF := Lib.hid href
        obtain ⟨cn, hcn⟩ : ∃ cn : Nat, cn = (cellN v).toNat := ⟨_, rfl⟩
        have hcv : cellN v = (cn : Int) := by omega
        rw [← hcn] at ST
        rw [hcv] at CC
        have HCN := Lib.hid hcn
        clear href hcn hcv ok1 hrg
        go_wp2_with fail
        refine CC.mono ?_
        rintro e w2 ⟨rfl, rfl⟩
        clear CC
        go_wp2_with fail
        refine ST.mono ?_
        rintro e w2 ⟨rfl, T2, g1, g2, g3⟩
        have hI3 : I w2 (eachW f s (ws.take (k + 1))) T2 := by rw [HTK.out, eachW_snoc, HREF.out, if_pos rfl, ← HCN.out]; exact g1
        have HI3 := Lib.hid hI3
        have HC3 := Lib.hid (HC.out.trans g2 HT.out)
        have HT3 : Hid (∀ t ∈ T2, t ∈ T ∨ w.heap.size ≤ t) := Lib.hid (fun t ht => by
          rcases g3 t ht with h | h
          · exact HT.out t h
          · exact .inr (Nat.le_trans HC.out.size h))
        clear ST g1 g2 g3 hI3 HI2 HC HT c1
        go_wp2_with fail
        go_roundw
        case rel => exact ⟨k + 1, T2, by omega, by go_num, HI3.out, HC3.out, HT3.out⟩
        case measure => simp [intOf]; omega
    · obtain rfl : n = k := by omega
      have h2 := HI2.out
      rw [List.take_of_length_le (by rw [HL.out]; exact Nat.le_refl _)] at h2
      have HI3 := Lib.hid h2
      clear h2
      go_wp2_with fail
      go_end0
      exact ⟨rfl, T', HI3.out, HC.out, HT.out⟩
theorem wordsOf_u {h : List Cel} (hh : ∀ x ∈ h, InR x) (c : Nat) (hc : c < h.length) : ∀ v ∈ wordsOf h c, u64 v := by
  have := InR.at hh c hc
  intro v hv
  unfold wordsOf at hv
  split at hv
  · cases hv
  · simp at hv
    rcases hv with rfl | rfl
    · exact this.2.2.2.2.1
    · exact this.2.2.2.2.2
set_option maxHeartbeats 1000000 in
theorem named_order {α : Type} (x y : Nat) (I : World → α → List Nat → Prop) (f : α → Nat → α) (ok : Nat → Prop) (hs : Steps 96 x y I f ok) (hst : ∀ w w' s T, I w s T → Ch [] w w' → I w' s T) (w : World) (s : α) (T : List Nat) (hI : I w s T) (hTl : ∀ t ∈ T, t < w.heap.size) (ao : Option Addr) (cap : Nat) (h : List Cel) (c : Nat) (hc : c < h.length) (hn : h.length ≤ 1000000)
    (hr : RdF w ao (h.length * 4) (flat h) T) (hh : ∀ x ∈ h, InR x) (hb : Bnd w) (hbT : 0 ∉ T) (hok : ∀ v ∈ wordsOf h c, isRef v = true → ok (cellN v).toNat) :
    Calls Tryd.prog 98 #[.slice ao h.length cap, .int .i64 c, .func (.func 96) #[] #[.pointer (some ⟨x, 0, none⟩), .pointer (some ⟨y, 0, none⟩)]] w (EachPost I w (named h f s c) T) := by
  obtain ⟨b, off, rfl, hbn, hj⟩ := hr.2.resolve_left (by omega)
  have hA : ∀ t, t < 4 → w.cell? ⟨b, off + (c * 4 + t), none⟩ = (celV (h.getD c z))[t]? := fun t ht => (hj _ (by omega)).trans (flat_get h c t hc ht)
  have a0 := hA 0 (by omega)
  have a1 := hA 1 (by omega)
  have a2 := hA 2 (by omega)
  have a3 := hA 3 (by omega)
  have hw0 : wordsOf h c = if (h.getD c z).k = 0 then [] else [(h.getD c z).a, (h.getD c z).b] := rfl
  have hwu := wordsOf_u hh c hc
  unfold named
  have hcl : (c : Int) < h.length := by omega
  generalize hwv : wordsOf h c = ws at *
  generalize h.getD c z = cx at *
  obtain ⟨ck, cc, ca, cb⟩ := cx
  simp only [celV, List.getElem?_cons_zero, List.getElem?_cons_succ, Nat.add_zero, ← Nat.add_assoc] at a0 a1 a2 a3 hw0
  have CA : Ch [] w (w.alloc (.cells #[.int .u8 ck, .int .u8 cc, .int .u64 ca, .int .u64 cb] 86)) := (Ch.refl _ _).alloc _
  generalize h.length = n at *
  by_cases hk : ck = 0
  · subst hk
    rw [if_pos rfl] at hw0
    subst hw0
    have P : Hid (EachPost I w (eachW f s []) T (.returned (.tuple #[])) (w.alloc (.cells #[.int .u8 0, .int .u8 cc, .int .u64 ca, .int .u64 cb] 86))) := Lib.hid ⟨rfl, T, hst _ _ _ _ hI CA, CA.mono (by simp), fun t ht => .inl ht⟩
    clear hs hst hI hTl hr hh hb hbT hok hj hA hwu hbn CA hwv
    go_enter Tryd.func98, Tryd.ntmps98
    go_wp2_with fail
    go_end0
    exact P.out
  · have hk' : (ck != 0) = true := by simpa using hk
    rw [if_neg hk] at hw0
    have CB : Ch [] w ((w.alloc (.cells #[.int .u8 ck, .int .u8 cc, .int .u64 ca, .int .u64 cb] 86)).alloc (.cells #[.int .u64 ca, .int .u64 cb] 29)) := CA.alloc _
    have gT : ∀ t ∈ T, t < w.heap.size := hTl
    have EE := each_order x y I f ok hs _ s T (hst _ _ _ _ hI CB) (some ⟨w.heap.size + 1, 0, none⟩) 2 2 ws (by omega) ⟨by rw [hw0]; rfl, .inr ⟨w.heap.size + 1, 0, rfl, fun hm => by have := gT _ hm; omega, fun j hj => by
      have hh := heap_new (w.alloc (.cells #[.int .u8 ck, .int .u8 cc, .int .u64 ca, .int .u64 cb] 86)) (.cells #[.int .u64 ca, .int .u64 cb] 29)
      rw [show (w.alloc (.cells #[.int .u8 ck, .int .u8 cc, .int .u64 ca, .int .u64 cb] 86)).heap.size = w.heap.size + 1 by simp] at hh
      rw [cell_at hh, hw0, Nat.zero_add, List.getElem?_toArray]; rfl⟩⟩ (Bnd.ch hb CB (by simp)) hbT hwu hok
    have HCB := Lib.hid CB
    clear hs hst hI hTl hr hh hb hbT hok hj hA hwu hbn CA CB hwv hw0 hk gT
    go_enter Tryd.func98, Tryd.ntmps98
    go_wp2_with fail
    refine EE.mono ?_
    rintro e w2 ⟨rfl, T', g1, g2, g3⟩
    have P : Hid (EachPost I w (eachW f s ws) T (.returned (.tuple #[])) w2) := Lib.hid ⟨rfl, T', g1, (HCB.out.mono (by simp)).trans g2 (fun t ht => .inl ht), fun t ht => (g3 t ht).imp id (fun h => Nat.le_trans HCB.out.size h)⟩
    clear EE g1 g2 g3 HCB
    go_wp2_with fail
    go_end0
    exact P.out
end Go.Proofs.YtefamhdkfdgdjaaDoor.Gr

set_option linter.unusedVariables false
set_option linter.unusedSimpArgs false
set_option maxRecDepth 100000
namespace Go.Proofs.YtefamhdkfdgdjaaDoor.Gr
open Go.RowKit Go.Proofs.YtefamhdkfdgdjaaDoor.Wd Go.Proofs.YtefamhdkfdgdjaaDoor.Hp Go.Proofs.YtefamhdkfdgdjaaDoor.Gp Go.Proofs.YtefamhdkfdgdjaaDoor.Sm

def checkE (h : List Cel) : Int := match badAt h.length h 0 with | none => 0 | some _ => 100
def checkI (h : List Cel) : Int := match badAt h.length h 0 with | none => 0 | some i => i
theorem badAt_none (n : Nat) : ∀ (l : List Cel) (i : Nat), (∀ j, j < l.length → okCell n (l.getD j z) = true) → badAt n l i = none
  | [], _, _ => rfl
  | x :: l, i, h => by
    have h0 := h 0 (by simp)
    simp only [List.getD_cons_zero] at h0
    rw [badAt, if_pos h0]
    exact badAt_none n l (i + 1) fun j hj => by have := h (j + 1) (by simpa using hj); simpa using this
theorem badAt_some (n : Nat) : ∀ (l : List Cel) (i k : Nat), k < l.length → (∀ j, j < k → okCell n (l.getD j z) = true) → okCell n (l.getD k z) = false → badAt n l i = some (i + k)
  | [], _, _, h, _, _ => absurd h (by simp)
  | x :: l, i, 0, _, _, hb => by
    simp only [List.getD_cons_zero] at hb
    rw [badAt, hb]; rfl
  | x :: l, i, k + 1, hk, h, hb => by
    have h0 := h 0 (by omega)
    simp only [List.getD_cons_zero] at h0
    rw [badAt, if_pos h0, badAt_some n l (i + 1) k (by simpa using hk) (fun j hj => by have := h (j + 1) (by omega); simpa using this) (by simpa using hb)]
    congr 1; omega
theorem all_getD (p : Cel → Bool) (l : List Cel) : l.all p = true ↔ ∀ j, j < l.length → p (l.getD j z) = true := by
  rw [List.all_eq_true]
  constructor
  · intro h j hj
    rw [show l.getD j z = l[j] by simp [List.getD, hj]]
    exact h _ (List.getElem_mem hj)
  · intro h x hx
    obtain ⟨j, hj, rfl⟩ := List.getElem_of_mem hx
    have := h j hj
    rwa [show l.getD j z = l[j] by simp [List.getD, hj]] at this
theorem checkE_ok (h : List Cel) : checkE h = 0 ↔ h.all (okCell h.length) = true := by
  rw [all_getD]
  unfold checkE
  constructor
  · intro he
    by_cases hx : ∀ j, j < h.length → okCell h.length (h.getD j z) = true
    · exact hx
    · have hx' : ∃ j, j < h.length ∧ okCell h.length (h.getD j z) = false := by
        apply Classical.byContradiction
        intro hn
        apply hx
        intro j hj
        cases ho : okCell h.length (h.getD j z) with
        | true => rfl
        | false => exact absurd ⟨j, hj, ho⟩ hn
      have : ∀ m, m < h.length → okCell h.length (h.getD m z) = false → badAt h.length h 0 ≠ none := by
        intro m
        induction m using Nat.strongRecOn with
        | _ m ih =>
          intro hm ho
          by_cases hf : ∀ j, j < m → okCell h.length (h.getD j z) = true
          · rw [badAt_some _ _ _ m hm hf ho]; simp
          · have : ∃ j, j < m ∧ okCell h.length (h.getD j z) = false := by
              apply Classical.byContradiction
              intro hn
              apply hf
              intro j hj
              cases hjo : okCell h.length (h.getD j z) with
              | true => rfl
              | false => exact absurd ⟨j, hj, hjo⟩ hn
            obtain ⟨j, hj, hjo⟩ := this
            exact ih j hj (by omega) hjo
      obtain ⟨j, hj, hjo⟩ := hx'
      have h3 := this j hj hjo
      revert he
      cases hb : badAt h.length h 0 with
      | none => exact absurd hb h3
      | some q => simp
  · intro hx
    rw [badAt_none _ _ _ hx]
theorem checkE_or (h : List Cel) : checkE h = 0 ∨ checkE h = 100 := by unfold checkE; split <;> simp
def ChkPost (h : List Cel) (w : World) (e : Ending) (w' : World) : Prop := e = .returned (.tuple #[.int .i64 (checkE h), .int .i64 (checkI h)]) ∧ Ch [] w w'
theorem ChkPost.bad {h : List Cel} {w w' : World} (k : Nat) (hk : k < h.length) (hf : ∀ j, j < k → okCell h.length (h.getD j z) = true) (ho : okCell h.length (h.getD k z) = false) (hc : Ch [] w w') : ChkPost h w (.returned (.tuple #[.int .i64 100, .int .i64 k])) w' := by
  refine ⟨?_, hc⟩
  unfold checkE checkI
  rw [badAt_some _ _ _ k hk hf ho]; simp
theorem ChkPost.good {h : List Cel} {w w' : World} (hf : ∀ j, j < h.length → okCell h.length (h.getD j z) = true) (hc : Ch [] w w') : ChkPost h w (.returned (.tuple #[.int .i64 0, .int .i64 0])) w' := by
  refine ⟨?_, hc⟩
  unfold checkE checkI
  rw [badAt_none _ _ _ hf]
theorem Check_any (w : World) (ao : Option Addr) (cap : Nat) (h : List Cel) (hn : h.length ≤ 1000000) (hr : RdF w ao (h.length * 4) (flat h) []) (hh : ∀ x ∈ h, InR x) (hb : Bnd w) :
    Calls Tryd.prog 92 #[.slice ao h.length cap] w (ChkPost h w) := by
  have HR := Lib.hid hr
  have HH := Lib.hid hh
  have HB := Lib.hid hb
  obtain ⟨n, hnl⟩ : ∃ n, n = h.length := ⟨_, rfl⟩
  rw [← hnl] at hn ⊢
  have HN := Lib.hid hnl
  clear hr hh hb hnl
  go_enter Tryd.func92, Tryd.ntmps92
  go_wp2_with fail
  go_loopw [8] (fun i wr => ∃ (k : Nat), k ≤ n ∧ i = .int .i64 k ∧ Ch [] w wr ∧ ∀ j, j < k → okCell h.length (h.getD j z) = true) (fun i _ => n - (intOf i).toNat)
  case atStart => exact ⟨0, by omega, rfl, Ch.refl _ _, fun j hj => absurd hj (by omega)⟩
  case round =>
    obtain ⟨k, hk, rfl, hc, hf⟩ := hrel
    have HC := Lib.hid hc
    have HF := Lib.hid hf
    clear hc hf
    by_cases hlt : k < n
    · have hkl : k < h.length := by rw [← HN.out]; exact hlt
      obtain ⟨b, off, rfl, hbn, hj⟩ := HR.out.2.resolve_left (by omega)
      have hA : ∀ t, t < 4 → wr.cell? ⟨b, off + (k * 4 + t), none⟩ = (celV (h.getD k z))[t]? := fun t ht => by
        have h3 := (hj (k * 4 + t) (by omega)).trans (flat_get h k t hkl ht)
        rw [List.getElem?_eq_getElem (by simp [celV]; omega)] at h3 ⊢
        exact HC.out.cell h3 (by simp)
      have a0 := hA 0 (by omega)
      have a1 := hA 1 (by omega)
      have a2 := hA 2 (by omega)
      have a3 := hA 3 (by omega)
      obtain ⟨i1, i2, i3, i4, i5, i6⟩ := InR.at HH.out k hkl
      have HO : Hid (okCell h.length (h.getD k z) = okCell n (h.getD k z)) := Lib.hid (by rw [HN.out])
      have HKL := Lib.hid hkl
      obtain ⟨x, hx⟩ : ∃ x, x = h.getD k z := ⟨_, rfl⟩
      rw [← hx] at a0 a1 a2 a3 i1 i2 i3 i4 i5 i6
      have HX := Lib.hid hx
      obtain ⟨ck, cc, ca, cb⟩ := x
      simp only [celV, List.getElem?_cons_zero, List.getElem?_cons_succ, Nat.add_zero, ← Nat.add_assoc] at a0 a1 a2 a3
      simp only at i1 i2 i3 i4 i5 i6
      have HCA := Lib.hid ((Ch.refl [] wr).alloc (.cells #[.int .u8 ck, .int .u8 cc, .int .u64 ca, .int .u64 cb] 86))
      have HCW := Lib.hid (HC.out.trans HCA.out (fun t ht => absurd ht (by simp)))
      have BD : Bnd (wr.alloc (.cells #[.int .u8 ck, .int .u8 cc, .int .u64 ca, .int .u64 cb] 86)) := Bnd.ch HB.out HCW.out (by simp)
      have WA := isWord_any (wr.alloc (.cells #[.int .u8 ck, .int .u8 cc, .int .u64 ca, .int .u64 cb] 86)) ca n i5 BD
      have WB := isWord_any (wr.alloc (.cells #[.int .u8 ck, .int .u8 cc, .int .u64 ca, .int .u64 cb] 86)) cb n i6 BD
      have ltI : (k : Int) < n := by omega
      have HOK : Hid (okCell h.length (h.getD k z) = (!(decide (3 < ck)) && !(decide (2 < cc)) && (ck == 0 || (isWord ca n && isWord cb n)))) := Lib.hid (by rw [HO.out, ← HX.out]; rfl)
      clear hj hbn hA hkl hx BD HO HX HC HCA
      generalize isWord ca n = ia at *
      generalize isWord cb n = ib at *
      have Dr := fun (W : World) => HCW
      by_cases k3 : 3 < ck
      · go_wp2_with fail
        go_ret2
        exact ChkPost.bad k HKL.out HF.out (by rw [HOK.out]; simp [k3]) HCW.out
      · have k3' : ck ≤ 3 := by omega
        by_cases c2 : 2 < cc
        · go_wp2_with fail
          go_ret2
          exact ChkPost.bad k HKL.out HF.out (by rw [HOK.out]; simp [c2]) HCW.out
        · have c2' : cc ≤ 2 := by omega
          by_cases k0 : ck = 0
          · subst k0
            go_wp2_with fail
            go_roundw
            case rel =>
              refine ⟨k + 1, by omega, by go_num, HCW.out, fun j hj => ?_⟩
              by_cases e : j = k
              · subst e; rw [HOK.out]; simp [c2]
              · exact HF.out j (by omega)
            case measure => simp [intOf]; omega
          · have k0' : (ck != 0) = true := by simpa using k0
            cases ia
            · go_wp2_with fail
              refine WA.mono ?_
              rintro e w2 ⟨rfl, rfl⟩
              go_wp2_with fail
              go_ret2
              exact ChkPost.bad k HKL.out HF.out (by rw [HOK.out]; simp [k0, k3, c2]) HCW.out
            · cases ib
              · go_wp2_with fail
                refine WA.mono ?_
                rintro e w2 ⟨rfl, rfl⟩
                go_wp2_with fail
                refine WB.mono ?_
                rintro e w2 ⟨rfl, rfl⟩
                go_wp2_with fail
                go_ret2
                exact ChkPost.bad k HKL.out HF.out (by rw [HOK.out]; simp [k0, k3, c2]) HCW.out
              · go_wp2_with fail
                refine WA.mono ?_
                rintro e w2 ⟨rfl, rfl⟩
                go_wp2_with fail
                refine WB.mono ?_
                rintro e w2 ⟨rfl, rfl⟩
                go_wp2_with fail
                go_roundw
                case rel =>
                  refine ⟨k + 1, by omega, by go_num, HCW.out, fun j hj => ?_⟩
                  by_cases e : j = k
                  · subst e; rw [HOK.out]; simp [k0, k3, c2]
                  · exact HF.out j (by omega)
                case measure => simp [intOf]; omega
    · obtain rfl : k = n := by omega
      have P : Hid (ChkPost h w (.returned (.tuple #[.int .i64 0, .int .i64 0])) wr) := Lib.hid (ChkPost.good (fun j hj => HF.out j (by rw [HN.out]; exact hj)) HC.out)
      go_wp2_with fail
      go_ret2
      exact P.out

theorem may1_any (w : World) (x : Int) (bt : Nat) (ao : Option Addr) (n cap : Nat) (hx : u64 x) (ht : w.cell? ⟨bt, 0, none⟩ = some (.slice ao n cap)) (hb : Bnd w) :
    Calls Tryd.prog 94 #[.int .u64 x, .pointer (some ⟨bt, 0, none⟩)] w fun e w' => e = .returned (.bool (!isWord x n)) ∧ w' = w := by
  have H := isWord_any w x n hx hb
  clear hx hb
  generalize isWord x n = r at *
  go_enter Tryd.func94, Tryd.ntmps94
  go_wp2_with (go_at_call 95; refine H.mono ?_; rintro e w2 ⟨rfl, rfl⟩)
  go_ret
  exact ⟨rfl, rfl⟩
set_option maxHeartbeats 400000 in
theorem IndexFunc_any (w : World) (ao : Option Addr) (n cn : Nat) (ws : List Int) (bt : Nat) (aoh : Option Addr) (m caph : Nat) (hn : n ≤ 1000000) (hr : RdF w ao n (ints .u64 ws) []) (hu : ∀ v ∈ ws, u64 v) (hb : Bnd w) (ht : w.cell? ⟨bt, 0, none⟩ = some (.slice aoh m caph)) :
    Calls Tryd.prog 100 #[.slice ao n cn, .func (.func 94) #[] #[.pointer (some ⟨bt, 0, none⟩)]] w fun e w' => (∃ i : Int, e = .returned (.int .i64 i) ∧ decide (0 ≤ i) = ws.any (fun v => !isWord v m)) ∧ w' = w := by
  have hl : ws.length = n := by simpa [ints] using hr.1
  have HR := Lib.hid hr
  have HB := Lib.hid hb
  have HU := Lib.hid hu
  have HL := Lib.hid hl
  have HT := Lib.hid ht
  clear hr hb hu hl ht
  go_enter Tryd.func100, Tryd.ntmps100
  go_wp2_with fail
  go_loopw [8] (fun i wr => ∃ k : Nat, k ≤ n ∧ i = .int .i64 k ∧ (∀ j, j < k → isWord (ws.getD j 0) m = true) ∧ wr = w) (fun i _ => n - (intOf i).toNat)
  case atStart => exact ⟨0, by omega, rfl, (fun j hj => absurd hj (by omega)), by first | rfl | trivial⟩
  case round =>
    obtain ⟨k, hk, rfl, hag, rfl⟩ := hrel
    have HG := Lib.hid hag
    clear hag
    by_cases hlt : k < n
    · have hkl : k < ws.length := by rw [HL.out]; exact hlt
      obtain ⟨v, hv⟩ : ∃ v, v = ws.getD k 0 := ⟨_, rfl⟩
      have hvm : v ∈ ws := by rw [hv, show ws.getD k 0 = ws[k] by simp [List.getD, hkl]]; exact List.getElem_mem hkl
      obtain ⟨b, off, rfl, hbn, hj⟩ := HR.out.2.resolve_left (by omega)
      have c1 := (hj k hlt).trans ((ints_get hkl).trans (by rw [← hv]))
      have CL := may1_any wr v bt aoh m caph (HU.out v hvm) HT.out HB.out
      have ltI : (k : Int) < n := by omega
      have HV := Lib.hid hv
      have HKL := Lib.hid hkl
      clear hj hbn hv hvm hkl
      cases hiw : isWord v m
      · rw [hiw] at CL
        have HIW := Lib.hid hiw
        clear hiw
        go_wp2_with (go_at_call 94; refine CL.mono ?_; rintro e w2 ⟨rfl, rfl⟩)
        go_ret
        refine ⟨⟨_, rfl, ?_⟩, rfl⟩
        have : ws.any (fun v => !isWord v m) = true := by
          rw [List.any_eq_true]
          exact ⟨v, by rw [HV.out, show ws.getD k 0 = ws[k]'HKL.out by simp [List.getD, HKL.out]]; exact List.getElem_mem _, by simp [HIW.out]⟩
        rw [this]; simp
      · rw [hiw] at CL
        have HIW := Lib.hid hiw
        clear hiw
        go_wp2_with (go_at_call 94; refine CL.mono ?_; rintro e w2 ⟨rfl, rfl⟩)
        go_roundw
        case rel => exact ⟨k + 1, by omega, by go_num, (fun j hj => by
          rcases Nat.lt_or_ge j k with h | h
          · exact HG.out j h
          · obtain rfl : j = k := by omega
            rw [← HV.out]; exact HIW.out), by first | rfl | trivial⟩
        case measure => simp [intOf]; omega
    · obtain rfl : k = n := by omega
      go_wp2_with fail
      go_ret
      refine ⟨⟨_, rfl, ?_⟩, rfl⟩
      have : ws.any (fun v => !isWord v m) = false := by
        rw [List.any_eq_false]
        intro x hx
        obtain ⟨j, hj, rfl⟩ := List.getElem_of_mem hx
        have := HG.out j (by rw [← HL.out]; exact hj)
        rw [show ws.getD j 0 = ws[j] by simp [List.getD, hj]] at this
        simp [this]
      rw [this]; simp
theorem ContainsFunc_any (w : World) (ao : Option Addr) (n cn : Nat) (ws : List Int) (bt : Nat) (aoh : Option Addr) (m caph : Nat) (hn : n ≤ 1000000) (hr : RdF w ao n (ints .u64 ws) []) (hu : ∀ v ∈ ws, u64 v) (hb : Bnd w) (ht : w.cell? ⟨bt, 0, none⟩ = some (.slice aoh m caph)) :
    Calls Tryd.prog 93 #[.slice ao n cn, .func (.func 94) #[] #[.pointer (some ⟨bt, 0, none⟩)]] w fun e w' => e = .returned (.bool (ws.any (fun v => !isWord v m))) ∧ w' = w := by
  have H := IndexFunc_any w ao n cn ws bt aoh m caph hn hr hu hb ht
  clear hr hu hb ht
  generalize ws.any (fun v => !isWord v m) = r at *
  go_enter Tryd.func93, Tryd.ntmps93
  go_wp2_with (go_at_call 100; refine H.mono ?_; rintro e w2 ⟨⟨i, rfl, hi⟩, rfl⟩; have hI := Lib.hid hi; clear hi)
  go_ret
  exact ⟨by rw [← hI.out]; rfl, rfl⟩
theorem all_not_any (ws : List Int) (m : Nat) : ws.all (fun v => isWord v m) = !ws.any (fun v => !isWord v m) := by
  induction ws with
  | nil => rfl
  | cons x l ih => simp only [List.all_cons, List.any_cons, ih]; cases isWord x m <;> simp
theorem may_any (w : World) (ao : Option Addr) (cap : Nat) (h : List Cel) (aw : Option Addr) (n cn : Nat) (ws : List Int) (hn : h.length ≤ 1000000) (hn2 : n ≤ 1000000) (hr : RdF w ao (h.length * 4) (flat h) []) (hrw : RdF w aw n (ints .u64 ws) []) (hh : ∀ x ∈ h, InR x) (hu : ∀ v ∈ ws, u64 v) (hb : Bnd w) :
    Calls Tryd.prog 86 #[.slice ao h.length cap, .slice aw n cn] w fun e w' => e = .returned (.bool (may h ws)) ∧ Ch [] w w' := by
  have C0 : Ch [] w (w.alloc (.cells #[.slice ao h.length cap] 23)) := (Ch.refl _ _).alloc _
  have ht : (w.alloc (.cells #[.slice ao h.length cap] 23)).cell? ⟨w.heap.size, 0, none⟩ = some (.slice ao h.length cap) := World.cell?_alloc_at _ _ _ _ rfl
  have CK := Check_any _ ao cap h hn (hr.ch C0 (by simp)) hh (Bnd.ch hb C0 (by simp))
  have HE := checkE_ok h
  have HOR := checkE_or h
  have CF := fun w2 (h2 : Ch [] (w.alloc (.cells #[.slice ao h.length cap] 23)) w2) => ContainsFunc_any w2 aw n cn ws w.heap.size ao h.length cap hn2 ((hrw.ch C0 (T' := []) (by simp)).ch h2 (by simp)) hu (Bnd.ch (Bnd.ch hb C0 (by simp)) h2 (by simp)) (h2.cell ht (by simp))
  have HM : Hid (may h ws = (h.all (okCell h.length) && !ws.any (fun v => !isWord v h.length))) := Lib.hid (by unfold may; rw [all_not_any])
  have HC := Lib.hid C0
  have HCF := Lib.hid CF
  unfold ChkPost at CK
  clear C0 hr hrw hh hu hb CF
  generalize checkE h = ce at *
  generalize checkI h = ci at *
  generalize ws.any (fun v => !isWord v h.length) = bw at *
  generalize h.all (okCell h.length) = bh at *
  generalize may h ws = mh at *
  generalize h.length = hl at *
  rcases HOR with rfl | rfl
  · have hbh := Lib.hid (HE.1 rfl)
    clear HE
    go_enter Tryd.func86, Tryd.ntmps86
    go_wp2_with fail
    refine CK.mono ?_
    rintro e w2 ⟨rfl, h2⟩
    have CF := HCF.out w2 h2
    have ht2 := h2.cell ht (by simp)
    have H2 := Lib.hid h2
    clear h2 ht CK
    go_wp2_with fail
    refine CF.mono ?_
    rintro e w3 ⟨rfl, rfl⟩
    go_wp2_with fail
    go_ret
    exact ⟨by rw [HM.out, hbh.out]; rfl, HC.out.trans H2.out (by simp)⟩
  · have hbh : bh = false := by
      cases hb : bh with
      | false => rfl
      | true => have := HE.2 hb; omega
    replace hbh := Lib.hid hbh
    clear HE
    go_enter Tryd.func86, Tryd.ntmps86
    go_wp2_with fail
    refine CK.mono ?_
    rintro e w2 ⟨rfl, h2⟩
    have ht2 := h2.cell ht (by simp)
    have H2 := Lib.hid h2
    clear h2 ht CK
    go_wp2_with fail
    go_ret
    exact ⟨by rw [HM.out, hbh.out]; rfl, HC.out.trans H2.out (by simp)⟩
end Go.Proofs.YtefamhdkfdgdjaaDoor.Gr

set_option linter.unusedVariables false
set_option linter.unusedSimpArgs false
set_option maxRecDepth 100000
namespace Go.Proofs.YtefamhdkfdgdjaaDoor.Gr
open Go.RowKit Go.Proofs.YtefamhdkfdgdjaaDoor.Wd Go.Proofs.YtefamhdkfdgdjaaDoor.Hp Go.Proofs.YtefamhdkfdgdjaaDoor.Gp Go.Proofs.YtefamhdkfdgdjaaDoor.Sm

def bv (l : List Bool) : List Value := l.map Value.bool
def nv (l : List Nat) : List Value := l.map fun (c : Nat) => .int .i64 (c : Int)
theorem bv_len (l : List Bool) : (bv l).length = l.length := by simp [bv]
theorem nv_len (l : List Nat) : (nv l).length = l.length := by simp [nv]
theorem nv_snoc (l : List Nat) (c : Nat) : nv (l ++ [c]) = nv l ++ [.int .i64 c] := by simp [nv]
theorem bv_at (l : List Bool) (c : Nat) (h : c < l.length) : (bv l)[c]? = some (.bool (l.getD c true)) := by simp [bv, h]
theorem nv_at (l : List Nat) (c : Nat) (h : c < l.length) : (nv l)[c]? = some (.int .i64 (l.getD c 0)) := by simp [nv, h]
theorem bv_set (l : List Bool) (c : Nat) (b : Bool) : (bv l).toArray.setIfInBounds c (.bool b) = (bv (l.set c b)).toArray := by
  simp [bv, List.map_set]
theorem infoBool : (Tryd.prog.info? 4).map (fun i => (i.zero, i.size, i.bytes)) = some (some (.bool false), 1, 1) := by kernel_rfl
theorem infoInt : (Tryd.prog.info? 3).map (fun i => (i.zero, i.size, i.bytes)) = some (some (.int .i64 0), 1, 8) := by kernel_rfl
theorem made_one (v : Value) : ∀ n : Nat, madeCells #[v] n = (List.replicate n v).toArray := by
  intro n
  apply Array.ext_getElem?
  intro i
  by_cases h : i < n
  · simp [madeCells, h, Nat.mod_one]
  · simp [madeCells, h]
theorem run_make_bools (w : World) (n : Nat) (h : n ≤ 1000000) : (Instr.makeSlice 126 (.int .i64 (n : Int)) (.int .i64 (n : Int))).run Tryd.prog w = .ok (.slice (some ⟨w.heap.size, 0, none⟩) n n) (w.alloc (.cells (bv (List.replicate n false)).toArray 4)) := by
  obtain ⟨i, hi, he⟩ := Option.map_eq_some_iff.1 infoBool
  simp only [Prod.mk.injEq] at he
  obtain ⟨e1, e2, e3⟩ := he
  have := run_make (P := Tryd.prog) w 126 4 i _ Tryd.underlying126 hi e1 .i64 .i64 n n (by omega) (by omega) (by rw [e3]; omega) (by omega)
  rw [this, e2]
  have e4 : (Value.bool false).cells = #[.bool false] := rfl
  simp only [Int.toNat_natCast]
  rw [e4, Nat.mul_one, made_one, show bv (List.replicate n false) = List.replicate n (.bool false) by simp [bv]]

structure MS (pm pr mb n : Nat) (w : World) (s : St) (T : List Nat) : Prop where
  inv : Inv n s
  hpm : w.heap[pm]? = some (.cells #[.slice (some ⟨mb, 0, none⟩) n n] 126 (0, 0))
  hmb : w.heap[mb]? = some (.cells (bv s.1).toArray 4 (0, 0))
  ne : pm ≠ pr ∧ pm ≠ mb ∧ pr ≠ mb
  row : ∃ qs v, T = pr :: mb :: qs ∧ w.heap[pr]? = some (.cells #[v] 26 (0, 0)) ∧ Row w 3 1 v qs s.2.length (nv s.2) ∧ ∀ q ∈ qs, (q ≠ pm ∧ q ≠ pr ∧ q ≠ mb) ∧ q < w.heap.size
theorem MS.ch {pm pr mb n : Nat} {w w' : World} {s : St} {T : List Nat} (h : MS pm pr mb n w s T) (hc : Ch [] w w') : MS pm pr mb n w' s T := by
  obtain ⟨a, b, c, d, qs, v, e, f, g, i⟩ := h
  exact ⟨a, hc.heap b (by simp), hc.heap c (by simp), d, qs, v, e, hc.heap f (by simp), g.ch hc (by simp), fun q hq => ⟨(i q hq).1, Nat.lt_of_lt_of_le (i q hq).2 hc.size⟩⟩
theorem meet_steps (pm pr mb n : Nat) (hn : n ≤ 1000000) : Steps 96 pm pr (MS pm pr mb n) meet (fun c => c < n) := by
  intro w s T c hI hc
  obtain ⟨hinv, hpm, hmb, ⟨d1, d2, d3⟩, qs, v, hT, hpr, hrow, hd⟩ := hI
  obtain ⟨ms, l⟩ := s
  have hml : ms.length = n := hinv.len
  have hle : l.length ≤ n := hinv.le
  change Row w 3 1 v qs l.length (nv l) at hrow
  change w.heap[mb]? = some (.cells (bv ms).toArray 4 (0, 0)) at hmb
  have hI : MS pm pr mb n w (ms, l) T := ⟨hinv, hpm, hmb, ⟨d1, d2, d3⟩, qs, v, hT, hpr, hrow, hd⟩
  have HI := Lib.hid hI
  have HINV := Lib.hid (hinv.meet c hc)
  have a1 : w.cell? ⟨pm, 0, none⟩ = some (.slice (some ⟨mb, 0, none⟩) n n) := by rw [cell_at hpm]; rfl
  have a2 : w.cell? ⟨mb, c, none⟩ = some (.bool (ms.getD c true)) := by rw [cell_at hmb, List.getElem?_toArray]; exact bv_at _ _ (by simpa [hml] using hc)
  have ltI : (c : Int) < n := by omega
  clear hI
  cases hb : ms.getD c true
  · have hme : meet (ms, l) c = (ms.set c true, l ++ [c]) := by unfold meet; rw [show (ms, l).1.getD c true = false from hb]; rfl
    rw [hme] at HINV ⊢
    rw [hb] at a2
    obtain ⟨ao, cap, rfl, r1, r2, r3⟩ := hrow.rd
    have C1 : Ch [mb] w (w.setCell ⟨mb, c, none⟩ (.bool true)) := (Ch.refl _ _).setCell _ _ (.inl (by simp))
    have fr := free_at (i := c) hmb
    have b1 : (w.setCell ⟨mb, c, none⟩ (.bool true)).cell? ⟨pr, 0, none⟩ = some (.slice ao l.length cap) := C1.cell (by rw [cell_at hpr]; rfl) (by simpa using d3)
    have m1 := heap_set (i := c) hmb (.bool true)
    rw [bv_set] at m1
    have C2 := C1.alloc (.cells #[.int .i64 c] 3)
    have R2 := hrow.ch C2 (fun q hq => by simpa using (hd q hq).1.2.2)
    have HN := Lib.hid (newL (w := w.setCell ⟨mb, c, none⟩ (.bool true)) (b := w.heap.size) (by simp [World.setCell]) [.int .i64 c] 3)
    have pr2 := C2.heap hpr (by simpa using d3)
    have pm2 := C2.heap hpm (by simpa using d2)
    have mb2 := heap_old (o' := .cells #[.int .i64 c] 3) m1
    obtain ⟨i0, hi, he⟩ := Option.map_eq_some_iff.1 infoInt
    simp only [Prod.mk.injEq] at he
    obtain ⟨hz0, hz1, hz2⟩ := he
    have HPR := Lib.hid pr2
    have HPM := Lib.hid pm2
    have HMB := Lib.hid mb2
    have HC2 := Lib.hid C2
    have HD := Lib.hid hd
    have HR := Lib.hid R2
    have HT := Lib.hid hT
    have hprl : w.heap.size > pr := lt_of hpr
    have hmbl : w.heap.size > mb := lt_of hmb
    have hpml : w.heap.size > pm := lt_of hpm
    have HL := Lib.hid (And.intro hprl (And.intro hmbl hpml))
    clear hb hinv hpm hmb hpr hrow hd m1 C2 R2 pr2 pm2 mb2 hT C1 r3 hprl hmbl hpml HI hme
    go_enter Tryd.func96, Tryd.ntmps96
    go_wp2_with (at_builtin; refine wpList_append_row _ rfl _ _ 26 rfl 3 i0 (.int .i64 0) 1 8 Tryd.underlying26 hi hz0 hz1 hz2 rfl (by decide) rfl HR.out ⟨w.heap.size, 0, none⟩ 1 1 [.int .i64 c] rfl rfl HN.out (one1 _ _) (by unfold maxLen; omega) (by omega) ?_)
    intro v' w1 qs' hr4 hc4 hq4
    have p1 : w1.heap[pr]? = _ := hc4.heap HPR.out (fun hm => (HD.out _ hm).1.2.1 rfl)
    have p2 : w1.heap[pm]? = _ := hc4.heap HPM.out (fun hm => (HD.out _ hm).1.1 rfl)
    have p3 : w1.heap[mb]? = _ := hc4.heap HMB.out (fun hm => (HD.out _ hm).1.2.2 rfl)
    obtain ⟨ao', cap', rfl, _⟩ := hr4.rd
    have P1 := Lib.hid p1
    have P2 := Lib.hid p2
    have P3 := Lib.hid p3
    have c1 := cell_at (i := 0) p1
    simp only [List.getElem?_toArray, List.getElem?_cons_zero] at c1
    have f1 := free_at (i := 0) p1
    have HR4 := Lib.hid hr4
    have HC4 := Lib.hid hc4
    have HQ4 := Lib.hid hq4
    clear hr4 hc4 hq4 p1 p2 p3
    go_wp2_with fail
    go_end0
    have CC : Ch (pr :: mb :: qs) w (w1.setCell ⟨pr, 0, none⟩ (.slice ao' (l.length + 1) cap')) := ((HC2.out.mono (T := pr :: mb :: qs) (fun x hx => by simp at hx; subst hx; simp)).trans HC4.out (fun x hx => .inl (by simp [hx]))).setCell _ _ (.inl (by simp))
    have hs : w.heap.size < w1.heap.size := by have := HC2.out.size; have h2 := HC4.out.size; simp [World.setCell] at h2; omega
    have hnew : ∀ q ∈ qs', q ∈ qs ∨ w.heap.size ≤ q := fun q hq => by
      rcases HQ4.out with e | ⟨q', e, h3, h4⟩
      · rw [e] at hq; exact .inl hq
      · rw [e] at hq; simp at hq; subst hq; right; try simp [World.setCell] at h3
        omega
    have hs1 : (w1.setCell ⟨pr, 0, none⟩ (.slice ao' (l.length + 1) cap')).heap.size = w1.heap.size := by simp [World.setCell]
    have hd' : ∀ q ∈ qs', (q ≠ pm ∧ q ≠ pr ∧ q ≠ mb) ∧ q < (w1.setCell ⟨pr, 0, none⟩ (.slice ao' (l.length + 1) cap')).heap.size := fun q hq => by
      refine ⟨?_, ?_⟩
      · rcases hnew q hq with h | h
        · exact (HD.out q h).1
        · have := HL.out; omega
      · rw [hs1]
        rcases HQ4.out with e | ⟨q', e, h3, h4⟩
        · rw [e] at hq; have := (HD.out q hq).2; omega
        · rw [e] at hq; simp at hq; subst hq; exact h4
    refine ⟨rfl, pr :: mb :: qs', ⟨HINV.out, ?_, ?_, ⟨d1, d2, d3⟩, qs', _, rfl, heap_set (i := 0) P1.out _, ?_, hd'⟩, ?_, fun t ht => ?_⟩
    · rw [heap_set_ne d1]; exact P2.out
    · rw [heap_set_ne (Ne.symm d3)]; exact P3.out
    · have := (HR4.out.keep (w' := w1.setCell ⟨pr, 0, none⟩ (.slice ao' (l.length + 1) cap')) (fun q hq o ho => (heap_set_ne (hd' q hq).1.2.1).trans ho))
      rw [nv_snoc]
      simpa using this
    · rw [HT.out]; exact CC
    · rw [HT.out]
      simp only [List.mem_cons] at ht ⊢
      rcases ht with h | h | h
      · exact .inl (.inl h)
      · exact .inl (.inr (.inl h))
      · exact (hnew t h).imp (fun h => .inr (.inr h)) id
  · have hme : meet (ms, l) c = (ms, l) := by unfold meet; rw [show (ms, l).1.getD c true = true from hb]; rfl
    rw [hme]
    rw [hb] at a2
    clear hb hinv hpm hmb hpr hrow hd hT hme HINV
    go_enter Tryd.func96, Tryd.ntmps96
    go_wp2_with fail
    go_end0
    exact ⟨rfl, T, HI.out, Ch.refl _ _, fun t ht => .inl ht⟩

theorem each_all {α : Type} {f : α → Nat → α} {P : α → Prop} {ok : Nat → Prop} (hf : ∀ s c, P s → ok c → P (f s c)) : ∀ (l : List Int) (s : α), P s → (∀ v ∈ l, isRef v = true → ok (cellN v).toNat) → P (eachW f s l)
  | [], s, h, _ => h
  | x :: l, s, h, hk => by
    show P (eachW f (if isRef x then f s (cellN x).toNat else s) l)
    refine each_all hf l _ ?_ (fun v hv => hk v (by simp [hv]))
    split
    · next hr => exact hf s _ h (hk x (by simp) hr)
    · exact h
theorem isWord_ok {w : Int} {n : Nat} (h : isWord w n = true) (hr : isRef w = true) : (cellN w).toNat < n := by
  unfold isWord at h
  rw [hr] at h
  have := cellN_range w
  simp at h
  omega
theorem may_roots {h : List Cel} {ws : List Int} (hm : may h ws = true) : ∀ v ∈ ws, isRef v = true → (cellN v).toNat < h.length := by
  intro v hv hr
  unfold may at hm
  simp only [Bool.and_eq_true, List.all_eq_true] at hm
  exact isWord_ok (hm.2 v hv) hr
theorem may_cells {h : List Cel} {ws : List Int} (hm : may h ws = true) (c : Nat) (hc : c < h.length) : ∀ v ∈ wordsOf h c, isRef v = true → (cellN v).toNat < h.length := by
  intro v hv hr
  unfold may at hm
  simp only [Bool.and_eq_true] at hm
  have := (all_getD _ _).1 hm.1 c hc
  unfold okCell at this
  unfold wordsOf at hv
  split at hv
  · cases hv
  · next hk =>
    simp only [Bool.and_eq_true, Bool.or_eq_true, beq_iff_eq] at this
    have h2 := this.2.resolve_left hk
    simp at hv
    rcases hv with rfl | rfl
    · exact isWord_ok h2.1 hr
    · exact isWord_ok h2.2 hr
theorem inv_lt {n : Nat} {s : St} (h : Inv n s) (i : Nat) (hi : i < s.2.length) : s.2.getD i 0 < n := by
  have : s.2.getD i 0 ∈ s.2 := by rw [show s.2.getD i 0 = s.2[i] by simp [List.getD, hi]]; exact List.getElem_mem hi
  exact ((h.mem _).1 this).1
/-- What order answers: the row, of each cell whether it is met. -/
def OrdPost (h : List Cel) (ws : List Int) (w : World) (e : Ending) (w' : World) : Prop :=
  ∃ (v : Value) (qs : List Nat) (mb : Nat), e = .returned (.tuple #[v, .slice (some ⟨mb, 0, none⟩) h.length h.length]) ∧ Row w' 3 1 v qs (order h ws).2.length (nv (order h ws).2) ∧ w'.heap[mb]? = some (.cells (bv (order h ws).1).toArray 4 (0, 0)) ∧ Ch [] w w' ∧ w.heap.size ≤ mb ∧ mb ∉ qs ∧ ∀ q ∈ qs, w.heap.size ≤ q
set_option maxHeartbeats 1000000 in
theorem order_any (w : World) (ao : Option Addr) (cap : Nat) (h : List Cel) (aw : Option Addr) (m cw : Nat) (ws : List Int) (hn : h.length ≤ 1000000) (hm : m ≤ 1000000)
    (hr : RdF w ao (h.length * 4) (flat h) []) (hrw : RdF w aw m (ints .u64 ws) []) (hh : ∀ x ∈ h, InR x) (hu : ∀ v ∈ ws, u64 v) (hb : Bnd w) (hmay : may h ws = true) :
    Calls Tryd.prog 87 #[.slice ao h.length cap, .slice aw m cw] w (OrdPost h ws w) := by
  obtain ⟨n, hnl⟩ : ∃ n, n = h.length := ⟨_, rfl⟩
  have hn' : n ≤ 1000000 := by rw [hnl]; exact hn
  have hmk : ∀ w : World, _ := fun w => run_make_bools w n (by omega)
  -- the state that order makes
  obtain ⟨W, hW⟩ : ∃ W, W = ((w.alloc (.cells (bv (List.replicate n false)).toArray 4)).alloc (.cells #[.slice (some ⟨w.heap.size, 0, none⟩) n n] 126)).alloc (.cells #[.slice none 0 0] 26) := ⟨_, rfl⟩
  have h0 : MS (w.heap.size + 1) (w.heap.size + 2) w.heap.size n W (List.replicate n false, []) [w.heap.size + 2, w.heap.size] := by
    subst hW
    refine ⟨Inv.start n, ?_, ?_, by omega, [], .slice none 0 0, rfl, ?_, Row.nil _ _ _ _, by simp⟩
    · exact heap_old (by have := heap_new (w.alloc (.cells (bv (List.replicate n false)).toArray 4)) (.cells #[.slice (some ⟨w.heap.size, 0, none⟩) n n] 126); simpa using this)
    · exact heap_old (heap_old (heap_new w _))
    · have := heap_new ((w.alloc (.cells (bv (List.replicate n false)).toArray 4)).alloc (.cells #[.slice (some ⟨w.heap.size, 0, none⟩) n n] 126)) (.cells #[.slice none 0 0] 26); simpa using this
  have hC : Ch [] w W := by subst hW; exact (((Ch.refl _ _).alloc _).alloc _).alloc _
  have hWs : W.heap.size = w.heap.size + 3 := by subst hW; simp
  have ms := meet_steps (w.heap.size + 1) (w.heap.size + 2) w.heap.size n (by omega)
  have hbl := Bnd.block hb
  have hTn : ∀ t ∈ [w.heap.size + 2, w.heap.size], w.heap.size ≤ t := by intro t ht; simp at ht; omega
  have EO := each_order _ _ _ _ _ ms W _ _ h0 aw m cw ws hm (hrw.ch hC (fun t ht => .inr (hTn t ht))) (Bnd.ch hb hC (by simp)) (fun hx => by have := hTn _ hx; omega) hu (by rw [hnl]; exact may_roots hmay)
  have EN := fun (wr : World) (s : St) (T : List Nat) (hI : MS (w.heap.size + 1) (w.heap.size + 2) w.heap.size n wr s T) (hTl : ∀ t ∈ T, t < wr.heap.size) (hCr : Ch [] w wr) (hTw : ∀ t ∈ T, w.heap.size ≤ t) (c : Nat) (hc : c < h.length) => named_order _ _ _ _ _ ms (fun w w' s T h1 h2 => h1.ch h2) wr s T hI hTl ao cap h c hc hn (hr.ch hCr (fun t ht => .inr (hTw t ht))) hh (Bnd.ch hb hCr (by simp)) (fun hx => by have := hTw _ hx; omega) (by rw [hnl]; exact may_cells hmay c hc)
  have HEN := Lib.hid EN
  have HO : Hid (orderL h (n + 1) 0 (eachW meet (List.replicate n false, []) ws) = order h ws) := Lib.hid (by rw [hnl]; rfl)
  have HH := Lib.hid hnl
  have HC := Lib.hid hC
  have HT := Lib.hid hTn
  obtain ⟨s0, hs0⟩ : ∃ s0, s0 = eachW meet (List.replicate n false, []) ws := ⟨_, rfl⟩
  rw [← hs0] at EO HO
  obtain ⟨R, hR⟩ : ∃ R, R = OrdPost h ws w := ⟨_, rfl⟩
  have HR := Lib.hid hR
  rw [← hR]
  rw [← hnl] at HEN ⊢
  clear hnl
  rw [hW] at EO
  clear EN hC hTn hs0 hR ms h0 hr hrw hh hu hb hmay hbl
  go_enter Tryd.func87, Tryd.ntmps87
  go_wp2_with fail
  refine EO.mono ?_
  rintro e w2 ⟨rfl, T, g1, g2, g3⟩
  rw [← hW] at g2 g3
  have c2 : Ch [] w w2 := HC.out.trans g2 (fun t ht => .inr (HT.out t ht))
  have t2 : ∀ t ∈ T, w.heap.size ≤ t := fun t ht => (g3 t ht).elim (HT.out t) (fun hh => Nat.le_trans HC.out.size hh)
  have G1 := Lib.hid g1
  have C2 := Lib.hid c2
  have T2 := Lib.hid t2
  clear EO g1 g2 g3 c2 t2 HT HC hW hWs hmk
  go_wp2_with fail
  go_loopw [9] (fun i wr => ∃ (j : Nat) (s : St) (T : List Nat), i = .int .i64 j ∧ j ≤ n ∧ MS (w.heap.size + 1) (w.heap.size + 2) w.heap.size n wr s T ∧ orderL h (n + 1 - j) j s = order h ws ∧ Ch [] w wr ∧ ∀ t ∈ T, w.heap.size ≤ t) (fun i _ => n - (intOf i).toNat)
  case atStart => exact ⟨0, s0, T, rfl, by omega, G1.out, HO.out, C2.out, T2.out⟩
  case round =>
    obtain ⟨j, s, T3, rfl, hjn, hms, ho, hc3, ht3⟩ := hrel
    clear G1 C2 T2
    obtain ⟨hinv, hpm, hmb, ⟨d1, d2, d3⟩, qs, v, hTe, hpr, hrow, hd⟩ := hms
    have hms : MS (w.heap.size + 1) (w.heap.size + 2) w.heap.size n wr s T3 := ⟨hinv, hpm, hmb, ⟨d1, d2, d3⟩, qs, v, hTe, hpr, hrow, hd⟩
    obtain ⟨ao', cap', rfl, r1, r2, r3⟩ := hrow.rd
    have a1 := cell_at (i := 0) hpr
    simp only [List.getElem?_toArray, List.getElem?_cons_zero] at a1
    have hle : s.2.length ≤ n := hinv.le
    have a2 := cell_at (i := 0) hpm
    simp only [List.getElem?_toArray, List.getElem?_cons_zero] at a2
    have HHO := Lib.hid ho
    have HC3 := Lib.hid hc3
    have HT3 := Lib.hid ht3
    have HMS := Lib.hid hms
    have hTl : ∀ t ∈ T3, t < wr.heap.size := by
      intro t ht
      rw [hTe] at ht
      simp only [List.mem_cons] at ht
      rcases ht with rfl | rfl | h
      · exact lt_of hpr
      · exact lt_of hmb
      · exact (hd t h).2
    by_cases hlt : j < s.2.length
    · have hcn := inv_lt hinv j hlt
      obtain ⟨b, off, rfl, hj⟩ := r3.2.resolve_left (by omega)
      have a3 := (hj j (by omega)).trans (nv_at _ _ hlt)
      have CN := HEN.out wr s T3 hms hTl hc3 ht3 (s.2.getD j 0) hcn
      have e1 : orderL h (n + 1 - j) j s = orderL h (n + 1 - (j + 1)) (j + 1) (named h meet s (s.2.getD j 0)) := by
        rw [show n + 1 - j = (n + 1 - (j + 1)) + 1 by omega, orderL, if_pos hlt]
      have E1 := Lib.hid e1
      have hmg : ∀ t ∈ T3, t ∈ T3 := fun t ht => ht
      have ltI : (j : Int) < s.2.length := by omega
      clear hinv hpm hmb hTe hpr hrow hd hj ho hc3 ht3 hms r3 hTl HMS e1 HH HO hmg
      generalize s.2.getD j 0 = c at *
      generalize s.2.length = len at *
      go_wp2_with fail
      refine CN.mono ?_
      rintro e w3 ⟨rfl, T4, g1, g2, g3⟩
      have G1 := Lib.hid g1
      have C4 := Lib.hid (HC3.out.trans g2 (fun t ht => .inr (HT3.out t ht)))
      have T4' : Hid (∀ t ∈ T4, w.heap.size ≤ t) := Lib.hid (fun t ht => (g3 t ht).elim (HT3.out t) (fun hh => Nat.le_trans HC3.out.size hh))
      clear CN g1 g2 g3
      go_wp2_with fail
      go_roundw
      case rel => exact ⟨j + 1, _, T4, by go_num, by omega, G1.out, by rw [← E1.out]; exact HHO.out, C4.out, T4'.out⟩
      case measure => simp [intOf]; omega
    · have e1 : orderL h (n + 1 - j) j s = s := by
        generalize n + 1 - j = k
        cases k with
        | zero => rfl
        | succ k => rw [orderL, if_neg hlt]
      have E1 := Lib.hid (e1.symm.trans ho)
      have ltI : ¬ (j : Int) < s.2.length := by omega
      have HROW := Lib.hid hrow
      have HMB := Lib.hid hmb
      have HD := Lib.hid hd
      have HTE := Lib.hid hTe
      clear hinv hpm hmb hTe hpr hrow hd ho hc3 ht3 hms r3 hTl HMS e1 HO
      obtain ⟨len, hlen⟩ : ∃ len, len = s.2.length := ⟨_, rfl⟩
      rw [← hlen] at *
      have HLEN := Lib.hid hlen
      clear hlen
      go_wp2_with fail
      go_quiet (fail)
      go_wp2_with fail
      rw [HR.out]
      unfold OrdPost
      rw [← HH.out, ← E1.out]
      refine ⟨_, qs, w.heap.size, rfl, HROW.out.keep (fun q _ o ho => ho), HMB.out, HC3.out.drewN _, Nat.le_refl _, fun hq => (HD.out _ hq).1.2.2 rfl, fun q hq => HT3.out q (by rw [HTE.out]; simp [hq])⟩
end Go.Proofs.YtefamhdkfdgdjaaDoor.Gr

set_option linter.unusedVariables false
set_option linter.unusedSimpArgs false
set_option maxRecDepth 100000
namespace Go.Proofs.YtefamhdkfdgdjaaDoor.Gr
open Go.RowKit Go.Proofs.YtefamhdkfdgdjaaDoor.Wd Go.Proofs.YtefamhdkfdgdjaaDoor.Hp Go.Proofs.YtefamhdkfdgdjaaDoor.Gp Go.Proofs.YtefamhdkfdgdjaaDoor.Sm

def gErr (h : List Cel) (ws : List Int) : Int := if may h ws then 0 else 100
def reach (h : List Cel) (ws : List Int) : List Bool := if may h ws then (order h ws).1 else []
def met (h : List Cel) (ws : List Int) : List Nat := if may h ws then (order h ws).2 else []
/-- What a maker of a list and an error answers. -/
def Mk (e : TypeId) (xs : List Value) (n : Nat) (er : Int) (w : World) (en : Ending) (w' : World) : Prop :=
  ∃ (v : Value) (qs : List Nat), en = .returned (.tuple #[v, .int .i64 er]) ∧ Row w' e 1 v qs n xs ∧ Ch [] w w' ∧ ∀ q ∈ qs, w.heap.size ≤ q
theorem eachW_len (n : Nat) (l : List Int) (s : St) (h : s.1.length = n) : (eachW meet s l).1.length = n := by
  induction l generalizing s with
  | nil => exact h
  | cons x l ih =>
    show (eachW meet (if isRef x then meet s (cellN x).toNat else s) l).1.length = n
    apply ih
    split
    · unfold meet; split
      · exact h
      · simpa using h
    · exact h
theorem orderL_len (h : List Cel) (n : Nat) : ∀ (k i : Nat) (s : St), s.1.length = n → (orderL h k i s).1.length = n
  | 0, _, s, hs => hs
  | k + 1, i, s, hs => by
    rw [orderL]; split
    · exact orderL_len h n k (i + 1) _ (eachW_len n _ _ hs)
    · exact hs
theorem order_len (h : List Cel) (ws : List Int) : (order h ws).1.length = h.length := orderL_len h _ _ _ _ (eachW_len _ _ _ (by simp))
theorem Row.block {w : World} {b : Nat} {e : TypeId} {xs : List Value} {n : Nat} (h : w.heap[b]? = some (.cells xs.toArray e (0, 0))) (hn : xs.length = n) (hm : n ≤ 1000000) : Row w e 1 (.slice (some ⟨b, 0, none⟩) n n) [b] n xs :=
  ⟨by omega, _, n, rfl, Nat.le_refl _, by unfold maxLen; omega, (by intro h; cases h), .inr ⟨b, 0, _, by simp, rfl, h, by simp; omega, fun j hj => by simp⟩⟩
section
variable (w : World) (ao : Option Addr) (cap : Nat) (h : List Cel) (aw : Option Addr) (m cw : Nat) (ws : List Int)
theorem Reach_any (hn : h.length ≤ 1000000) (hm : m ≤ 1000000)
    (hr : RdF w ao (h.length * 4) (flat h) []) (hrw : RdF w aw m (ints .u64 ws) []) (hh : ∀ x ∈ h, InR x) (hu : ∀ v ∈ ws, u64 v) (hb : Bnd w) :
    Calls Tryd.prog 66 #[.slice ao h.length cap, .slice aw m cw] w (Mk 4 (bv (reach h ws)) (reach h ws).length (gErr h ws) w) := by
  have M := may_any w ao cap h aw m cw ws hn hm hr hrw hh hu hb
  cases hmay : may h ws
  · rw [hmay] at M
    have P : ∀ w', Ch [] w w' → Mk 4 (bv (reach h ws)) (reach h ws).length (gErr h ws) w (.returned (.tuple #[.slice none 0 0, .int .i64 100])) w' := fun w' hc => by
      unfold gErr reach; rw [hmay]
      exact ⟨_, [], rfl, Row.nil _ _ _ _, hc, by simp⟩
    have HP := Lib.hid P
    generalize Mk 4 (bv (reach h ws)) (reach h ws).length (gErr h ws) w = R at *
    clear hr hrw hh hu hb P hmay
    go_enter Tryd.func66, Tryd.ntmps66
    go_wp2_with fail
    refine M.mono ?_
    rintro e w2 ⟨rfl, h2⟩
    go_wp2_with fail
    exact HP.out _ h2
  · rw [hmay] at M
    have O := fun w2 (hc : Ch [] w w2) => order_any w2 ao cap h aw m cw ws hn hm (hr.ch hc (by simp)) (hrw.ch hc (by simp)) hh hu (Bnd.ch hb hc (by simp)) hmay
    have P : ∀ w2 w', Ch [] w w2 → ∀ mb : Nat, Ch [] w2 w' → w2.heap.size ≤ mb → w'.heap[mb]? = some (.cells (bv (order h ws).1).toArray 4 (0, 0)) → Mk 4 (bv (reach h ws)) (reach h ws).length (gErr h ws) w (.returned (.tuple #[.slice (some ⟨mb, 0, none⟩) h.length h.length, .int .i64 0])) w' := fun w2 w' h1 mb h2 h3 h4 => by
      unfold gErr reach; rw [hmay]
      have hl := order_len h ws
      refine ⟨_, [mb], rfl, ?_, h1.trans' h2, fun q hq => by simp at hq; subst hq; have := h1.size; omega⟩
      rw [show ((if true = true then (order h ws).1 else [])) = (order h ws).1 from rfl, hl]
      exact Row.block h4 (by rw [bv_len, hl]) hn
    have HP := Lib.hid P
    have HO := Lib.hid O
    generalize Mk 4 (bv (reach h ws)) (reach h ws).length (gErr h ws) w = R at *
    clear hr hrw hh hu hb P hmay O
    go_enter Tryd.func66, Tryd.ntmps66
    go_wp2_with fail
    refine M.mono ?_
    rintro e w2 ⟨rfl, h2⟩
    have O := HO.out w2 h2
    clear M HO
    go_wp2_with fail
    refine O.mono ?_
    rintro e w3 ⟨v, qs, mb, rfl, g1, g2, g3, g4, g5, g6⟩
    have Z := Lib.hid (HP.out w2 w3 h2 mb g3 g4 g2)
    clear O g1 g2 g3 g4 g5 g6 HP
    go_wp2_with fail
    exact Z.out
end
end Go.Proofs.YtefamhdkfdgdjaaDoor.Gr

set_option linter.unusedVariables false
set_option linter.unusedSimpArgs false
set_option maxRecDepth 100000
namespace Go.Proofs.YtefamhdkfdgdjaaDoor.Gr
open Go.RowKit Go.Proofs.YtefamhdkfdgdjaaDoor.Wd Go.Proofs.YtefamhdkfdgdjaaDoor.Hp Go.Proofs.YtefamhdkfdgdjaaDoor.Gp Go.Proofs.YtefamhdkfdgdjaaDoor.Sm

theorem infoCell : (Tryd.prog.info? 86).map (fun i => (i.zero, i.size, i.bytes)) = some (some (.agg #[.int .u8 0, .int .u8 0, .int .u64 0, .int .u64 0]), 4, 24) := by kernel_rfl
theorem infoWord : (Tryd.prog.info? 29).map (fun i => (i.zero, i.size, i.bytes)) = some (some (.int .u64 0), 1, 8) := by kernel_rfl
theorem run_make_ints (w : World) (n : Nat) (h : n ≤ 1000000) : (Instr.makeSlice 26 (.int .i64 (n : Int)) (.int .i64 (n : Int))).run Tryd.prog w = .ok (.slice (some ⟨w.heap.size, 0, none⟩) n n) (w.alloc (.cells (nv (List.replicate n 0)).toArray 3)) := by
  obtain ⟨i, hi, he⟩ := Option.map_eq_some_iff.1 infoInt
  simp only [Prod.mk.injEq] at he
  obtain ⟨e1, e2, e3⟩ := he
  have := run_make (P := Tryd.prog) w 26 3 i _ Tryd.underlying26 hi e1 .i64 .i64 n n (by omega) (by omega) (by rw [e3]; omega) (by omega)
  rw [this, e2]
  have e4 : (Value.int .i64 0).cells = #[.int .i64 0] := rfl
  simp only [Int.toNat_natCast]
  rw [e4, Nat.mul_one, made_one, show nv (List.replicate n 0) = List.replicate n (.int .i64 0) by simp [nv]]

def placeK (n : Nat) (l : List Nat) : Nat → List Nat
  | 0 => List.replicate n 0
  | k + 1 => (placeK n l k).set (l.getD k 0) k
theorem placeK_len (n : Nat) (l : List Nat) : ∀ k, (placeK n l k).length = n
  | 0 => by simp [placeK]
  | k + 1 => by simp [placeK, placeK_len n l k]
theorem placeK_le (n : Nat) (l : List Nat) : ∀ k c, (placeK n l k).getD c 0 ≤ k
  | 0, c => by simp only [placeK, List.getD_eq_getElem?_getD, List.getElem?_replicate]; split <;> simp
  | k + 1, c => by
    have := placeK_le n l k c
    simp only [placeK, List.getD_eq_getElem?_getD, List.getElem?_set]
    simp only [List.getD_eq_getElem?_getD] at this
    split
    · split
      · simp
      · simp
    · omega
def place (h : List Cel) (ws : List Int) : List Nat := placeK h.length (order h ws).2 (order h ws).2.length
def moved (pl : List Nat) (x : Int) : Int := if isRef x then refW (pl.getD (cellN x).toNat 0 : Nat) else x
def formC (h : List Cel) (pl : List Nat) (c : Nat) : Cel := if (h.getD c z).k = 0 then ⟨0, 0, 0, 0⟩ else ⟨(h.getD c z).k, 0, moved pl (h.getD c z).a, moved pl (h.getD c z).b⟩
def formH (h : List Cel) (ws : List Int) : List Cel := if may h ws then (order h ws).2.map (formC h (place h ws)) else []
def formW (h : List Cel) (ws : List Int) : List Int := if may h ws then ws.map (moved (place h ws)) else []
theorem Row.rdF {w : World} {e : TypeId} {sz : Nat} {v : Value} {qs : List Nat} {n : Nat} {xs : List Value} (h : Row w e sz v qs n xs) : ∃ ao cap, v = .slice ao n cap ∧ n ≤ cap ∧ RdF w ao (n * sz) xs [] := by
  obtain ⟨ao, cap, h1, h2, h3, h4, h5⟩ := h.rd
  exact ⟨ao, cap, h1, h2, h4, h5.imp id fun ⟨b, off, a, c⟩ => ⟨b, off, a, by simp, c⟩⟩
theorem nv_set (l : List Nat) (c k : Nat) : (nv l).toArray.setIfInBounds c (.int .i64 k) = (nv (l.set c k)).toArray := by
  simp [nv, List.map_set]
def FormPost (h : List Cel) (ws : List Int) (w : World) (en : Ending) (w' : World) : Prop :=
  ∃ (vx : Value) (qx : List Nat) (vy : Value) (qy : List Nat), en = .returned (.tuple #[vx, vy, .int .i64 (gErr h ws)]) ∧ Row w' 86 4 vx qx (formH h ws).length (flat (formH h ws)) ∧ Row w' 29 1 vy qy (formW h ws).length (ints .u64 (formW h ws)) ∧ Ch [] w w' ∧ (∀ q ∈ qx, w.heap.size ≤ q) ∧ (∀ q ∈ qy, w.heap.size ≤ q) ∧ ∀ q ∈ qx, q ∉ qy
/-- The place list that is being written, in blocks of its own. -/
structure PL (bp pb n : Nat) (w : World) (pl : List Nat) : Prop where
  p : w.heap[bp]? = some (.cells #[.slice (some ⟨pb, 0, none⟩) n n] 26 (0, 0))
  q : w.heap[pb]? = some (.cells (nv pl).toArray 3 (0, 0))
theorem PL.ch {bp pb n : Nat} {w w' : World} {pl : List Nat} (h : PL bp pb n w pl) (hc : Ch [] w w') : PL bp pb n w' pl := ⟨hc.heap h.p (by simp), hc.heap h.q (by simp)⟩
theorem orderL_inv {h : List Cel} {ws : List Int} (hm : may h ws = true) : ∀ (k i : Nat) (s : St), Inv h.length s → Inv h.length (orderL h k i s)
  | 0, _, s, hs => hs
  | k + 1, i, s, hs => by
    rw [orderL]; split
    · next hi => exact orderL_inv hm k (i + 1) _ (each_all (fun s c h1 h2 => h1.meet c h2) _ _ hs (may_cells hm _ (inv_lt hs i hi)))
    · exact hs
theorem order_inv {h : List Cel} {ws : List Int} (hm : may h ws = true) : Inv h.length (order h ws) :=
  orderL_inv hm _ _ _ (each_all (fun s c h1 h2 => h1.meet c h2) _ _ (Inv.start _) (may_roots hm))
theorem take_snoc {α : Type} (l : List α) (j : Nat) (d : α) (h : j < l.length) : l.take (j + 1) = l.take j ++ [l.getD j d] := by
  rw [List.take_succ_eq_append_getElem h]; simp [List.getD, h]
theorem moved_u {pl : List Nat} {x : Int} (h : u64 x) : u64 (moved pl x) := by
  unfold moved; split
  · exact mkW_range _ _
  · exact h
def formL (h : List Cel) (pl : List Nat) (l : List Nat) (j : Nat) : List Value := flat ((l.take j).map (formC h pl))
theorem formL_snoc (h : List Cel) (pl : List Nat) (l : List Nat) (j : Nat) (hj : j < l.length) : formL h pl l (j + 1) = formL h pl l j ++ celV (formC h pl (l.getD j 0)) := by
  unfold formL
  rw [take_snoc l j 0 hj, List.map_append, flat_append]
  simp [flat]
def movL (pl : List Nat) (ws : List Int) (j : Nat) : List Value := ints .u64 ((ws.take j).map (moved pl))
theorem movL_snoc (pl : List Nat) (ws : List Int) (j : Nat) (hj : j < ws.length) : movL pl ws (j + 1) = movL pl ws j ++ [.int .u64 (moved pl (ws.getD j 0))] := by
  unfold movL
  rw [take_snoc ws j 0 hj, List.map_append]
  simp [ints]
section
variable (w : World) (ao : Option Addr) (cap : Nat) (h : List Cel) (aw : Option Addr) (m cw : Nat) (ws : List Int)
end
end Go.Proofs.YtefamhdkfdgdjaaDoor.Gr

set_option linter.unusedVariables false
set_option linter.unusedSimpArgs false
namespace Go.Proofs.YtefamhdkfdgdjaaDoor.Gp
open Go.RowKit Go.Proofs.YtefamhdkfdgdjaaDoor.Wd Go.Proofs.YtefamhdkfdgdjaaDoor.Hp Go.Proofs.YtefamhdkfdgdjaaDoor.Gr

def stepW (s : St) (x : Int) : St := if isRef x then meet s (cellN x).toNat else s
theorem eachW_step (s : St) (l : List Int) : eachW meet s l = l.foldl stepW s := rfl
def rowW (h : List Cel) (ws : List Int) (s : St) : List Int := ws ++ s.2.flatMap (wordsOf h)
def refK (h : List Cel) (ws : List Int) : Nat → St
  | 0 => (List.replicate h.length false, [])
  | k + 1 => match (rowW h ws (refK h ws k))[k]? with | some x => stepW (refK h ws k) x | none => refK h ws k
theorem meet_pre (s : St) (c : Nat) : ∃ t, (meet s c).2 = s.2 ++ t := by
  unfold meet; split
  · exact ⟨[], by simp⟩
  · exact ⟨[c], rfl⟩
theorem stepW_pre (s : St) (x : Int) : ∃ t, (stepW s x).2 = s.2 ++ t := by
  unfold stepW; split
  · exact meet_pre s _
  · exact ⟨[], by simp⟩
theorem steps_pre : ∀ (l : List Int) (s : St), ∃ t, (l.foldl stepW s).2 = s.2 ++ t
  | [], s => ⟨[], by simp⟩
  | x :: l, s => by
    obtain ⟨t, ht⟩ := stepW_pre s x
    obtain ⟨t2, ht2⟩ := steps_pre l (stepW s x)
    exact ⟨t ++ t2, by rw [List.foldl_cons, ht2, ht, List.append_assoc]⟩
theorem rowW_pre (h : List Cel) (ws : List Int) (s : St) (x : Int) : ∃ t, rowW h ws (stepW s x) = rowW h ws s ++ t := by
  obtain ⟨t, ht⟩ := stepW_pre s x
  exact ⟨t.flatMap (wordsOf h), by simp [rowW, ht]⟩
theorem refK_run (h : List Cel) (ws : List Int) : ∀ (l : List Int) (k : Nat) (pre t : List Int), pre.length = k → rowW h ws (refK h ws k) = pre ++ l ++ t → refK h ws (k + l.length) = l.foldl stepW (refK h ws k)
  | [], k, pre, t, _, _ => rfl
  | x :: l, k, pre, t, hp, hr => by
    have h1 : refK h ws (k + 1) = stepW (refK h ws k) x := by
      show (match (rowW h ws (refK h ws k))[k]? with | some x => stepW (refK h ws k) x | none => refK h ws k) = _
      rw [hr]
      simp [← hp]
    obtain ⟨t', ht⟩ := rowW_pre h ws (refK h ws k) x
    have := refK_run h ws l (k + 1) (pre ++ [x]) (t ++ t') (by simp [hp]) (by rw [h1, ht, hr]; simp)
    rw [List.foldl_cons, ← h1, ← this]
    congr 1
    simp; omega
theorem refK_next {h : List Cel} {ws : List Int} {k : Nat} {x : Int} (hx : (rowW h ws (refK h ws k))[k]? = some x) : refK h ws (k + 1) = stepW (refK h ws k) x := by
  show (match (rowW h ws (refK h ws k))[k]? with | some x => stepW (refK h ws k) x | none => refK h ws k) = _
  rw [hx]
theorem Inv.step {n : Nat} {s : St} (h : Inv n s) (x : Int) (hx : isRef x = true → (cellN x).toNat < n) : Inv n (stepW s x) := by
  unfold stepW; split
  · next hr => exact h.meet _ (hx hr)
  · exact h
theorem rowW_mem {h : List Cel} {ws : List Int} (hm : may h ws = true) {s : St} (hi : Inv h.length s) {x : Int} (hx : x ∈ rowW h ws s) : isRef x = true → (cellN x).toNat < h.length := by
  unfold rowW at hx
  rw [List.mem_append, List.mem_flatMap] at hx
  rcases hx with hx | ⟨c, hc, hx⟩
  · exact may_roots hm x hx
  · exact may_cells hm c ((hi.mem c).1 hc).1 x hx
theorem refK_inv {h : List Cel} {ws : List Int} (hm : may h ws = true) : ∀ k, Inv h.length (refK h ws k)
  | 0 => Inv.start _
  | k + 1 => by
    have ih := refK_inv hm k
    rw [refK]
    split
    · next x hx => exact ih.step x (rowW_mem hm ih (List.mem_of_getElem? hx))
    · exact ih
theorem flatMap_le (h : List Cel) : ∀ l : List Nat, (l.flatMap (wordsOf h)).length ≤ 2 * l.length
  | [] => by simp
  | c :: l => by
    have := flatMap_le h l
    rw [List.flatMap_cons, List.length_append]
    have h2 : (wordsOf h c).length ≤ 2 := by unfold wordsOf; split <;> simp
    simp only [List.length_cons]; omega
theorem rowW_le (h : List Cel) (ws : List Int) {s : St} (hi : Inv h.length s) : (rowW h ws s).length ≤ ws.length + 2 * h.length := by
  have := flatMap_le h s.2
  have := hi.le
  unfold rowW
  rw [List.length_append]; omega
theorem refK_stable {h : List Cel} {ws : List Int} {k : Nat} (hk : (rowW h ws (refK h ws k)).length ≤ k) : ∀ d, refK h ws (k + d) = refK h ws k
  | 0 => rfl
  | d + 1 => by
    have ih := refK_stable hk d
    show (match (rowW h ws (refK h ws (k + d)))[k + d]? with | some x => stepW (refK h ws (k + d)) x | none => refK h ws (k + d)) = _
    rw [ih, List.getElem?_eq_none (by omega)]
theorem orderL_ref {h : List Cel} {ws : List Int} (hm : may h ws = true) : ∀ (fuel i k : Nat) (s : St), Inv h.length s → i ≤ s.2.length → i + fuel = h.length + 1 → refK h ws k = s → k = (ws ++ (s.2.take i).flatMap (wordsOf h)).length →
    ∃ k', refK h ws k' = orderL h fuel i s ∧ (rowW h ws (orderL h fuel i s)).length ≤ k'
  | 0, i, k, s, hi, h1, h2, _, _ => by have := hi.le; omega
  | fuel + 1, i, k, s, hi, h1, h2, h3, h4 => by
    rw [orderL]
    by_cases hlt : i < s.2.length
    · rw [if_pos hlt]
      have hc := inv_lt hi i hlt
      have hdrop : s.2 = s.2.take i ++ s.2.getD i 0 :: s.2.drop (i + 1) := by
        have e : s.2.getD i 0 = s.2[i] := by simp [List.getD, hlt]
        rw [e]; simp
      have hrow : rowW h ws (refK h ws k) = (ws ++ (s.2.take i).flatMap (wordsOf h)) ++ wordsOf h (s.2.getD i 0) ++ (s.2.drop (i + 1)).flatMap (wordsOf h) := by
        rw [h3]
        unfold rowW
        conv => lhs; rw [hdrop]
        simp
      have hrun := refK_run h ws (wordsOf h (s.2.getD i 0)) k _ _ h4.symm hrow
      rw [h3] at hrun
      obtain ⟨t, ht⟩ := steps_pre (wordsOf h (s.2.getD i 0)) s
      have hinv : Inv h.length (named h meet s (s.2.getD i 0)) := by
        have := refK_inv hm (k + (wordsOf h (s.2.getD i 0)).length)
        rw [hrun] at this
        exact this
      refine orderL_ref hm fuel (i + 1) (k + (wordsOf h (s.2.getD i 0)).length) _ hinv ?_ (by omega) hrun ?_
      · show i + 1 ≤ ((wordsOf h (s.2.getD i 0)).foldl stepW s).2.length
        rw [ht, List.length_append]; omega
      · show k + (wordsOf h (s.2.getD i 0)).length = (ws ++ (((wordsOf h (s.2.getD i 0)).foldl stepW s).2.take (i + 1)).flatMap (wordsOf h)).length
        rw [ht, List.take_append_of_le_length (by omega), h4, take_snoc _ _ 0 hlt]
        simp; omega
    · rw [if_neg hlt]
      have : i = s.2.length := by omega
      subst this
      exact ⟨k, h3, by rw [h4, List.take_length]; exact Nat.le_refl _⟩
/-- Where the row of words ends, just what order meets has been met. -/
theorem refK_end {h : List Cel} {ws : List Int} (hm : may h ws = true) {k : Nat} (hk : (rowW h ws (refK h ws k)).length ≤ k) : refK h ws k = order h ws := by
  have h0 : refK h ws ws.length = eachW meet (List.replicate h.length false, []) ws := by
    have := refK_run h ws ws 0 [] [] rfl (by simp [rowW, refK])
    rw [Nat.zero_add] at this
    exact this
  obtain ⟨k', h1, h2⟩ := orderL_ref hm (h.length + 1) 0 ws.length _ (h0 ▸ refK_inv hm _) (by omega) (by omega) h0 (by simp)
  have e1 : orderL h (h.length + 1) 0 (eachW meet (List.replicate h.length false, []) ws) = order h ws := rfl
  rw [e1] at h1 h2
  rw [← h1] at h2
  have s1 := refK_stable hk k'
  have s2 := refK_stable h2 k
  rw [← s1, Nat.add_comm, s2, h1]
end Go.Proofs.YtefamhdkfdgdjaaDoor.Gp

set_option linter.unusedVariables false
set_option linter.unusedSimpArgs false
namespace Go.Proofs.YtefamhdkfdgdjaaDoor.Gp
open Go.RowKit Go.Proofs.YtefamhdkfdgdjaaDoor.Wd Go.Proofs.YtefamhdkfdgdjaaDoor.Hp Go.Proofs.YtefamhdkfdgdjaaDoor.Gr
/-- What is reached: named by a root, or by a cell that is reached and not free. -/
inductive Rea (h : List Cel) (ws : List Int) : Nat → Prop
  | src (x : Int) : x ∈ ws → isRef x = true → Rea h ws (cellN x).toNat
  | step (d : Nat) (x : Int) : Rea h ws d → x ∈ wordsOf h d → isRef x = true → Rea h ws (cellN x).toNat
theorem refK_snd (h : List Cel) (ws : List Int) : ∀ k, ∀ c ∈ (refK h ws k).2, Rea h ws c
  | 0 => fun c hc => by cases hc
  | k + 1 => by
    have ih := refK_snd h ws k
    rw [refK]
    split
    · next x hx =>
      intro c hc
      unfold stepW at hc
      split at hc
      · next hr =>
        unfold meet at hc
        split at hc
        · exact ih c hc
        · rw [List.mem_append, List.mem_singleton] at hc
          rcases hc with hc | rfl
          · exact ih c hc
          · have hm := List.mem_of_getElem? hx
            unfold rowW at hm
            rw [List.mem_append, List.mem_flatMap] at hm
            rcases hm with hm | ⟨d, hd, hm⟩
            · exact .src x hm hr
            · exact .step d x (ih d hd) hm hr
      · exact ih c hc
    · exact ih
theorem stepW_mem {n : Nat} {s : St} (hi : Inv n s) (x : Int) (hr : isRef x = true) (hx : (cellN x).toNat < n) : (cellN x).toNat ∈ (stepW s x).2 := by
  unfold stepW meet
  rw [if_pos hr]
  split
  · next h => exact (hi.mem _).2 ⟨hx, h⟩
  · simp
theorem refK_cpl {h : List Cel} {ws : List Int} (hm : may h ws = true) : ∀ k, ∀ (i : Nat) (x : Int), i < k → (rowW h ws (refK h ws k))[i]? = some x → isRef x = true → (cellN x).toNat ∈ (refK h ws k).2
  | 0 => fun i x hi => absurd hi (by omega)
  | k + 1 => by
    have ih := refK_cpl hm k
    have hinv := refK_inv hm k
    rw [refK]
    split
    · next x hx =>
      have hk : k < (rowW h ws (refK h ws k)).length := by
        rcases Nat.lt_or_ge k (rowW h ws (refK h ws k)).length with h1 | h1
        · exact h1
        · rw [List.getElem?_eq_none h1] at hx; cases hx
      intro i y hi hy hr
      obtain ⟨t, ht⟩ := rowW_pre h ws (refK h ws k) x
      rw [ht, List.getElem?_append_left (by omega)] at hy
      by_cases e : i = k
      · subst e
        rw [hx] at hy
        obtain rfl := Option.some.inj hy
        exact stepW_mem hinv _ hr (rowW_mem hm hinv (List.mem_of_getElem? hx) hr)
      · obtain ⟨t2, ht2⟩ := stepW_pre (refK h ws k) x
        rw [ht2]
        exact List.mem_append_left _ (ih i y (by omega) hy hr)
    · next hn =>
      intro i y hi hy hr
      by_cases e : i = k
      · subst e; rw [hn] at hy; cases hy
      · exact ih i y (by omega) hy hr
theorem ord_inv {h : List Cel} {ws : List Int} (hm : may h ws = true) : Inv h.length (order h ws) := by
  have hk := rowW_le h ws (refK_inv hm (ws.length + 2 * h.length))
  rw [← refK_end hm hk]
  exact refK_inv hm _
/-- JUST WHAT IS REACHED. -/
theorem order_iff {h : List Cel} {ws : List Int} (hm : may h ws = true) (c : Nat) : c ∈ (order h ws).2 ↔ Rea h ws c := by
  have hk := rowW_le h ws (refK_inv hm (ws.length + 2 * h.length))
  have he := refK_end hm hk
  constructor
  · intro hc
    rw [← he] at hc
    exact refK_snd h ws _ c hc
  · intro hr
    have key : ∀ x, x ∈ rowW h ws (order h ws) → isRef x = true → (cellN x).toNat ∈ (order h ws).2 := by
      intro x hx hr
      obtain ⟨i, hi, hxi⟩ := List.getElem_of_mem hx
      rw [← he] at hi hx
      have := refK_cpl hm (ws.length + 2 * h.length) i x (by omega) (by rw [List.getElem?_eq_getElem hi]; congr 1; rw [← hxi]; congr 1; rw [he]) hr
      rwa [he] at this
    induction hr with
    | src x hx h1 => exact key x (by unfold rowW; exact List.mem_append_left _ hx) h1
    | step d x hd hx h1 ih => exact key x (by unfold rowW; exact List.mem_append_right _ (List.mem_flatMap.2 ⟨d, ih, hx⟩)) h1
theorem order_at {h : List Cel} {ws : List Int} (hm : may h ws = true) (c : Nat) (hc : c < h.length) : (order h ws).1.getD c true = true ↔ Rea h ws c := by
  rw [← order_iff hm c, (ord_inv hm).mem c]
  exact ⟨fun h => ⟨hc, h⟩, fun h => h.2⟩
theorem order_len {h : List Cel} {ws : List Int} (hm : may h ws = true) : (order h ws).1.length = h.length := (ord_inv hm).len
theorem Rea.lt {h : List Cel} {ws : List Int} (hm : may h ws = true) {c : Nat} (hr : Rea h ws c) : c < h.length := (((ord_inv hm).mem c).1 ((order_iff hm c).2 hr)).1
end Go.Proofs.YtefamhdkfdgdjaaDoor.Gp
