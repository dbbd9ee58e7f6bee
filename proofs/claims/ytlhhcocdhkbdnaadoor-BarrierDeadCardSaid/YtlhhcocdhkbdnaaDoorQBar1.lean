/-
  CHAPTER 13, plain and walked: which cells a store shades; on, white, shade, Store, Fill, Birth.
-/
import Derived.Test.YtlhhcocdhkbdnaaDoorQJReachP
import Derived.Test.YtlhhcocdhkbdnaaDoorQJApp
set_option linter.unusedVariables false
set_option linter.unusedSimpArgs false
set_option maxRecDepth 100000
namespace Go.Proofs.YtlhhcocdhkbdnaaDoor.Bp
open Go.RowKit Go.Proofs.YtlhhcocdhkbdnaaDoor.Wd Go.Proofs.YtlhhcocdhkbdnaaDoor.Hp Go.Proofs.YtlhhcocdhkbdnaaDoor.Gp Go.Proofs.YtlhhcocdhkbdnaaDoor.Sm Go.Proofs.YtlhhcocdhkbdnaaDoor.Gr
def whiteC (x : Cel) : Bool := x.k != 0 && x.c == 0
def onP (p : Int) : Bool := p == 1 || p == 2
def shade1 (h : List Cel) (out : List Nat) (x : Int) : List Nat := if isRef x && (decide ((cellN x).toNat < h.length) && (whiteC (h.getD (cellN x).toNat z) && !(out.contains (cellN x).toNat))) then out ++ [(cellN x).toNat] else out
def shadeL (h : List Cel) (ws : List Int) : List Nat := ws.foldl (shade1 h) []
def storeL (p : Int) (s : Bool) (a b : Int) (h : List Cel) : List Nat := if onP p then (if s then shadeL h [a] else shadeL h [a, b]) else []
def fillL (p : Int) (s : Bool) (a b : Int) (h : List Cel) : List Nat := if onP p && !s then shadeL h [a, b] else []
def birthC (p : Int) (cell swept : Int) : Int := if onP p || (p == 3 && decide (swept ≤ cell)) then 2 else 0
theorem shadeL_snoc (h : List Cel) (l : List Int) (x : Int) : shadeL h (l ++ [x]) = shade1 h (shadeL h l) x := by simp [shadeL, List.foldl_append]
theorem shade1_len (h : List Cel) (out : List Nat) (x : Int) : (shade1 h out x).length ≤ out.length + 1 := by unfold shade1; split <;> simp
theorem shadeL_len (h : List Cel) (l : List Int) : (shadeL h l).length ≤ l.length := by
  suffices ∀ (l : List Int) (o : List Nat), (l.foldl (shade1 h) o).length ≤ o.length + l.length by simpa [shadeL] using this l []
  intro l
  induction l with
  | nil => intro o; simp
  | cons x l ih => intro o; have := ih (shade1 h o x); have := shade1_len h o x; simp only [List.foldl_cons, List.length_cons]; omega
theorem shadeL_lt (h : List Cel) (l : List Int) : ∀ c ∈ shadeL h l, c < h.length := by
  suffices ∀ (l : List Int) (o : List Nat), (∀ c ∈ o, c < h.length) → ∀ c ∈ l.foldl (shade1 h) o, c < h.length from this l [] (by simp)
  intro l
  induction l with
  | nil => intro o ho; exact ho
  | cons x l ih =>
    intro o ho
    refine ih _ ?_
    unfold shade1
    split
    · next hx =>
      simp only [Bool.and_eq_true, decide_eq_true_eq] at hx
      intro c hc
      rw [List.mem_append, List.mem_singleton] at hc
      rcases hc with hc | rfl
      · exact ho c hc
      · exact hx.2.1
    · exact ho
/-- What a maker of one list answers. -/
def Mk1 (e : TypeId) (xs : List Value) (n : Nat) (w : World) (en : Ending) (w' : World) : Prop :=
  ∃ (v : Value) (qs : List Nat), en = .returned v ∧ Row w' e 1 v qs n xs ∧ Ch [] w w' ∧ ∀ q ∈ qs, w.heap.size ≤ q
theorem Mk1.nil (e : TypeId) (w w' : World) (hc : Ch [] w w') : Mk1 e [] 0 w (.returned (.slice none 0 0)) w' := ⟨_, [], rfl, Row.nil _ _ _ _, hc, by simp⟩
theorem on_any (w : World) (p : Int) : Calls Tryd.prog 38 #[.int .u8 p] w fun e w' => e = .returned (.bool (onP p)) ∧ w' = w := by
  unfold onP
  by_cases h1 : p = 1
  · subst h1
    go_enter Tryd.func38, Tryd.ntmps38
    go_wp2_with fail
    go_ret
    exact ⟨rfl, rfl⟩
  · have h1' : (p == 1) = false := by simpa using h1
    rw [h1']
    clear h1
    go_enter Tryd.func38, Tryd.ntmps38
    go_wp2_with fail
    go_ret
    exact ⟨rfl, rfl⟩
theorem white_any (w : World) (k c a b : Int) : Calls Tryd.prog 74 #[.agg #[.int .u8 k, .int .u8 c, .int .u64 a, .int .u64 b]] w fun e w' => e = .returned (.bool (whiteC ⟨k, c, a, b⟩)) ∧ Ch [] w w' := by
  have HC := Lib.hid ((Ch.refl [] w).alloc (.cells #[.int .u8 k, .int .u8 c, .int .u64 a, .int .u64 b] 58))
  unfold whiteC
  simp only
  by_cases h1 : k = 0
  · subst h1
    go_enter Tryd.func74, Tryd.ntmps74
    go_wp2_with fail
    go_ret
    exact ⟨rfl, HC.out⟩
  · have h1' : (k != 0) = true := by simpa using h1
    rw [h1']
    clear h1
    go_enter Tryd.func74, Tryd.ntmps74
    go_wp2_with fail
    go_ret
    exact ⟨by simp, HC.out⟩
set_option maxHeartbeats 400000 in
theorem Index_any (w : World) (ao : Option Addr) (n cn : Nat) (L : List Nat) (c : Nat) (hn : n ≤ 1000000) (hr : Rd w ao n (nv L)) :
    Calls Tryd.prog 102 #[.slice ao n cn, .int .i64 (c : Int)] w fun e w' => (∃ i : Int, e = .returned (.int .i64 i) ∧ decide (0 ≤ i) = L.contains c) ∧ w' = w := by
  have hl : L.length = n := by simpa [nv] using hr.1
  have HR := Lib.hid hr
  have HL := Lib.hid hl
  clear hr hl
  go_enter Tryd.func102, Tryd.ntmps102
  go_wp2_with fail
  go_loopw [8] (fun i wr => ∃ k : Nat, k ≤ n ∧ i = .int .i64 k ∧ (∀ j, j < k → L.getD j 0 ≠ c) ∧ wr = w) (fun i _ => n - (intOf i).toNat)
  case atStart => exact ⟨0, by omega, rfl, (fun j hj => absurd hj (by omega)), by first | rfl | trivial⟩
  case round =>
    obtain ⟨k, hk, rfl, hag, rfl⟩ := hrel
    have HG := Lib.hid hag
    clear hag
    by_cases hlt : k < n
    · have hkl : k < L.length := by rw [HL.out]; exact hlt
      obtain ⟨b, off, rfl, hj⟩ := HR.out.2.resolve_left (by omega)
      have c1 := (hj k hlt).trans (nv_at _ _ hkl)
      have ltI : (k : Int) < n := by omega
      have HM : Hid (L.getD k 0 ∈ L) := Lib.hid (by rw [show L.getD k 0 = L[k] by simp [List.getD, hkl]]; exact List.getElem_mem hkl)
      generalize hd : L.getD k 0 = d at *
      have HD := Lib.hid hd
      clear hj hkl hd
      by_cases e : c = d
      · subst e
        go_wp2_with fail
        go_ret
        exact ⟨⟨_, rfl, by rw [show L.contains c = true by simpa using HM.out]; simp⟩, rfl⟩
      · have e' : ((c : Int) == (d : Int)) = false := by rw [beq_eq_false_iff_ne]; omega
        have HNE := Lib.hid e
        clear e
        go_wp2_with fail
        go_roundw
        case rel => exact ⟨k + 1, by omega, by go_num, (fun j hj => by
          rcases Nat.lt_or_ge j k with h | h
          · exact HG.out j h
          · obtain rfl : j = k := by omega
            rw [HD.out]; exact Ne.symm HNE.out), by first | rfl | trivial⟩
        case measure => simp [intOf]; omega
    · obtain rfl : k = n := by omega
      go_wp2_with fail
      go_ret
      refine ⟨⟨_, rfl, ?_⟩, rfl⟩
      have : L.contains c = false := by
        rw [Bool.eq_false_iff]
        intro hc
        obtain ⟨j, hj, e⟩ := List.getElem_of_mem (List.contains_iff_mem.1 hc)
        have := HG.out j (by rw [← HL.out]; exact hj)
        rw [show L.getD j 0 = L[j] by simp [List.getD, hj]] at this
        exact this e
      rw [this]; simp
theorem Contains_any (w : World) (ao : Option Addr) (n cn : Nat) (L : List Nat) (c : Nat) (hn : n ≤ 1000000) (hr : Rd w ao n (nv L)) :
    Calls Tryd.prog 82 #[.slice ao n cn, .int .i64 (c : Int)] w fun e w' => e = .returned (.bool (L.contains c)) ∧ w' = w := by
  have H := Index_any w ao n cn L c hn hr
  clear hr
  generalize L.contains c = r at *
  go_enter Tryd.func82, Tryd.ntmps82
  go_wp2_with fail
  refine H.mono ?_
  rintro e w2 ⟨⟨i, rfl, hi⟩, rfl⟩
  have hI := Lib.hid hi
  clear hi
  go_wp2_with fail
  go_ret
  exact ⟨by rw [← hI.out]; rfl, rfl⟩
set_option maxHeartbeats 1000000 in
theorem shade_any (w : World) (ao : Option Addr) (cap : Nat) (h : List Cel) (aw : Option Addr) (m cw : Nat) (ws : List Int) (hn : h.length ≤ 1000000) (hm : m ≤ 1000000) (hr : RdF w ao (h.length * 4) (flat h) []) (hrw : RdF w aw m (ints .u64 ws) []) (hh : ∀ x ∈ h, InR x) (hu : ∀ v ∈ ws, Gp.u64 v) (hb : Bnd w) :
    Calls Tryd.prog 39 #[.slice ao h.length cap, .slice aw m cw] w (Mk1 3 (nv (shadeL h ws)) (shadeL h ws).length w) := by
  have hwl : ws.length = m := by simpa [ints] using hrw.1
  obtain ⟨i1, hi1, he1⟩ := Option.map_eq_some_iff.1 infoInt
  simp only [Prod.mk.injEq] at he1
  obtain ⟨hy0, hy1, hy2⟩ := he1
  have HR := Lib.hid hr
  have HRW := Lib.hid hrw
  have HU := Lib.hid hu
  have HH := Lib.hid hh
  have HB := Lib.hid hb
  have HWL := Lib.hid hwl
  obtain ⟨n, hnl⟩ : ∃ n, n = h.length := ⟨_, rfl⟩
  have HN := Lib.hid hnl
  rw [← hnl] at hn ⊢
  clear hr hrw hu hh hb hwl hnl
  go_enter Tryd.func39, Tryd.ntmps39
  go_wp2_with fail
  go_loopw [12, 5] (fun i o wr => ∃ (k : Nat) (qs : List Nat), i = .int .i64 k ∧ k ≤ m ∧ Row wr 3 1 o qs (shadeL h (ws.take k)).length (nv (shadeL h (ws.take k))) ∧ Ch [] w wr ∧ ∀ q ∈ qs, w.heap.size ≤ q) (fun i _ _ => m - (intOf i).toNat)
  case atStart => exact ⟨0, [], rfl, by omega, Row.nil _ _ _ _, Ch.refl _ _, by simp⟩
  case round =>
    obtain ⟨k, qs, rfl, hk, hrow, hc, hq⟩ := hrel
    by_cases hlt : k < m
    · have hkl : k < ws.length := by rw [HWL.out]; exact hlt
      obtain ⟨x, hx⟩ : ∃ x, x = ws.getD k 0 := ⟨_, rfl⟩
      have hxm : x ∈ ws := by rw [hx, show ws.getD k 0 = ws[k] by simp [List.getD, hkl]]; exact List.getElem_mem hkl
      have hxu := HU.out x hxm
      obtain ⟨b, off, rfl, hbn, hj⟩ := HRW.out.2.resolve_left (by omega)
      have a1 := hc.cell ((hj k hlt).trans ((ints_get hkl).trans (by rw [← hx]))) (by simp)
      have CC := Wd.Cell_any wr x hxu.1 hxu.2 (Bnd.ch HB.out hc (by simp))
      have hrg := cellN_range x
      have TK : Hid (shadeL h (ws.take (k + 1)) = shade1 h (shadeL h (ws.take k)) x) := Lib.hid (by rw [take_snoc ws k 0 hkl, ← hx, shadeL_snoc])
      have hle := shadeL_len h (ws.take k)
      rw [List.length_take] at hle
      have ltI : (k : Int) < m := by omega
      have HRO := Lib.hid hrow
      have HC := Lib.hid hc
      have HQ := Lib.hid hq
      obtain ⟨ax, cx, rfl, x1, x2, x3⟩ := hrow.rd
      rw [Nat.mul_one] at x3
      have CT := Lib.hid (fun c => fun w2 (h2 : Ch [] wr w2) => Contains_any w2 ax _ cx (shadeL h (ws.take k)) c (by omega) (x3.ch h2))
      have hLn : (shadeL h (ws.take k)).length ≤ 1000000 := by omega
      clear hj hbn hrow hc hq x3 hx hxm hxu hkl hle
      generalize hL : shadeL h (ws.take k) = L at *
      have HL := Lib.hid hL
      clear hL
      generalize hnL : L.length = nL at *
      have HNL := Lib.hid hnL
      clear hnL
      unfold shade1 at TK
      cases href : isRef x
      · rw [href] at CC TK
        simp only [Bool.false_and, Bool.false_eq_true, if_false] at TK
        clear href hrg
        generalize cellN x = cv at *
        go_wp2_with fail
        refine CC.mono ?_
        rintro e w2 ⟨rfl, rfl⟩
        go_wp2_with fail
        go_roundw
        case rel => exact ⟨k + 1, qs, by go_num, by omega, by rw [TK.out, HNL.out]; exact HRO.out, HC.out, HQ.out⟩
        case measure => simp [intOf]; omega
      · rw [href] at CC TK
        obtain ⟨c, hcc⟩ : ∃ c : Nat, c = (cellN x).toNat := ⟨_, rfl⟩
        have hcv : cellN x = (c : Int) := by omega
        rw [← hcc] at TK
        rw [hcv] at CC
        simp only [Bool.true_and] at TK
        clear href hrg hcc hcv
        by_cases hcn : c < n
        · have hch : c < h.length := by rw [← HN.out]; exact hcn
          obtain ⟨bh, offh, rfl, hbhn, hjh⟩ := HR.out.2.resolve_left (by omega)
          have hA : ∀ t, t < 4 → wr.cell? ⟨bh, offh + (c * 4 + t), none⟩ = (celV (h.getD c z))[t]? := fun t ht => by
            have h3 := (hjh (c * 4 + t) (by omega)).trans (flat_get h c t hch ht)
            rw [List.getElem?_eq_getElem (by simp [celV]; omega)] at h3 ⊢
            exact HC.out.cell h3 (by simp)
          have b0 := hA 0 (by omega)
          have b1 := hA 1 (by omega)
          have b2 := hA 2 (by omega)
          have b3 := hA 3 (by omega)
          rw [← HN.out, decide_eq_true hcn, Bool.true_and] at TK
          generalize h.getD c z = y at *
          obtain ⟨ck, cc, ca, cb⟩ := y
          simp only [celV, List.getElem?_cons_zero, List.getElem?_cons_succ, Nat.add_zero, ← Nat.add_assoc] at b0 b1 b2 b3
          have WH := white_any wr ck cc ca cb
          have ltC : (c : Int) < n := by omega
          clear hA hjh hbhn hch hcn
          cases hw : whiteC ⟨ck, cc, ca, cb⟩
          · rw [hw] at WH TK
            simp only [Bool.false_and, Bool.false_eq_true, if_false] at TK
            clear hw
            go_wp2_with fail
            refine CC.mono ?_
            rintro e w2 ⟨rfl, rfl⟩
            clear CC
            go_wp2_with fail
            refine WH.mono ?_
            rintro e w3 ⟨rfl, h3⟩
            have H3 := Lib.hid h3
            clear WH h3
            go_wp2_with fail
            go_roundw
            case rel => exact ⟨k + 1, qs, by go_num, by omega, by rw [TK.out, HNL.out]; exact HRO.out.ch H3.out (by simp), HC.out.trans' H3.out, HQ.out⟩
            case measure => simp [intOf]; omega
          · rw [hw, Bool.true_and] at TK
            rw [hw] at WH
            clear hw
            go_wp2_with fail
            refine CC.mono ?_
            rintro e w2 ⟨rfl, rfl⟩
            clear CC
            go_wp2_with fail
            refine WH.mono ?_
            rintro e w3 ⟨rfl, h3⟩
            have H3 := Lib.hid h3
            have CN := CT.out c w3 h3
            clear WH h3
            cases hct : L.contains c
            · rw [hct] at CN TK
              simp only [Bool.not_false, if_true] at TK
              clear hct
              go_wp2_with fail
              refine CN.mono ?_
              rintro e w4 ⟨rfl, rfl⟩
              clear CN
              have CAB := Lib.hid ((Ch.refl [] w4).alloc (.cells #[.int .i64 c] 3))
              have HR1 := Lib.hid (HRO.out.ch (H3.out.trans' CAB.out) (by simp))
              have HN1 := Lib.hid (newL (w := w4) (b := w4.heap.size) rfl [.int .i64 c] 3)
              go_wp2_with (at_builtin; go_loud (refine wpList_append_row _ rfl _ _ 50 rfl 3 i1 _ 1 8 Tryd.underlying50 hi1 hy0 hy1 hy2 rfl (by decide) rfl HR1.out ⟨w4.heap.size, 0, none⟩ 1 1 [.int .i64 c] rfl rfl HN1.out (one1 _ _) (by unfold maxLen; omega) (by omega) ?_))
              intro v' w5 qs' hr4 hc4 hq4
              have HR4 := Lib.hid hr4
              have HC4 := Lib.hid hc4
              have HQ4 := Lib.hid hq4
              obtain ⟨ao4, cap4, rfl, _⟩ := hr4.rd
              clear hr4 hc4 hq4
              go_wp2_with fail
              go_roundw
              case rel =>
                refine ⟨k + 1, qs', by go_num, by omega, by rw [TK.out, List.length_append, HNL.out, nv_snoc]; exact HR4.out, ((HC.out.trans' H3.out).trans' CAB.out).trans HC4.out (fun x hx => .inr (HQ.out x hx)), fun q hq => ?_⟩
                have s1 := CAB.out.size
                have s2 := H3.out.size
                have s3 := HC.out.size
                rcases HQ4.out with e | ⟨q', e, h3, h4⟩
                · rw [e] at hq; exact HQ.out q hq
                · rw [e] at hq; simp at hq; subst hq; omega
              case measure => simp [intOf]; omega
            · rw [hct] at CN TK
              simp only [Bool.not_true, Bool.false_eq_true, if_false] at TK
              clear hct
              go_wp2_with fail
              refine CN.mono ?_
              rintro e w4 ⟨rfl, rfl⟩
              clear CN
              go_wp2_with fail
              go_roundw
              case rel => exact ⟨k + 1, qs, by go_num, by omega, by rw [TK.out, HNL.out]; exact HRO.out.ch H3.out (by simp), HC.out.trans' H3.out, HQ.out⟩
              case measure => simp [intOf]; omega
        · rw [← HN.out, decide_eq_false hcn, Bool.false_and] at TK
          simp only [Bool.false_eq_true, if_false] at TK
          have ltC : ¬ (c : Int) < n := by omega
          clear hcn
          go_wp2_with fail
          refine CC.mono ?_
          rintro e w2 ⟨rfl, rfl⟩
          clear CC
          go_wp2_with fail
          go_roundw
          case rel => exact ⟨k + 1, qs, by go_num, by omega, by rw [TK.out, HNL.out]; exact HRO.out, HC.out, HQ.out⟩
          case measure => simp [intOf]; omega
    · obtain rfl : k = m := by omega
      have e1 : ws.take k = ws := List.take_of_length_le (by rw [HWL.out]; exact Nat.le_refl _)
      rw [e1] at hrow
      obtain ⟨ax, cx, rfl, _⟩ := hrow.rd
      have Z : Hid (Mk1 3 (nv (shadeL h ws)) (shadeL h ws).length w (.returned (.slice ax (shadeL h ws).length cx)) wr) := Lib.hid ⟨_, qs, rfl, hrow, hc, hq⟩
      clear hrow hc hq
      generalize Mk1 3 (nv (shadeL h ws)) (shadeL h ws).length w = R at *
      generalize (shadeL h ws).length = len at *
      go_wp2_with fail
      exact Z.out
theorem one_rd (w : World) (x : Int) : RdF (w.alloc (.cells #[.int .u64 x] 24)) (some ⟨w.heap.size, 0, none⟩) 1 (ints .u64 [x]) [] :=
  ⟨rfl, .inr ⟨w.heap.size, 0, rfl, by simp, fun j hj => by
    obtain rfl : j = 0 := by omega
    exact World.cell?_alloc_at _ _ _ _ rfl⟩⟩
theorem two_rd (w : World) (x y : Int) : RdF (w.alloc (.cells #[.int .u64 x, .int .u64 y] 24)) (some ⟨w.heap.size, 0, none⟩) 2 (ints .u64 [x, y]) [] :=
  ⟨rfl, .inr ⟨w.heap.size, 0, rfl, by simp, fun j hj => by
    rw [Nat.zero_add, cell_at (heap_new w _)]
    simp [ints]⟩⟩
theorem Mk1.ch {e : TypeId} {xs : List Value} {n : Nat} {w w1 : World} {en : Ending} {w' : World} (h : Mk1 e xs n w1 en w') (hc : Ch [] w w1) : Mk1 e xs n w en w' := by
  obtain ⟨v, qs, h1, h2, h3, h4⟩ := h
  exact ⟨v, qs, h1, h2, hc.trans' h3, fun q hq => Nat.le_trans hc.size (h4 q hq)⟩
section
variable (w : World) (ao : Option Addr) (cap : Nat) (h : List Cel) (p : Int) (s : Bool) (a b : Int)
theorem Store_any (hn : h.length ≤ 1000000) (hr : RdF w ao (h.length * 4) (flat h) []) (hh : ∀ x ∈ h, InR x) (ha : Gp.u64 a) (hb : Gp.u64 b) (hB : Bnd w) :
    Calls Tryd.prog 13 #[.int .u8 p, .bool s, .int .u64 a, .int .u64 b, .slice ao h.length cap] w (Mk1 3 (nv (storeL p s a b h)) (storeL p s a b h).length w) := by
  have ON := on_any w p
  have C1 : Ch [] w (w.alloc (.cells #[.int .u64 a] 24)) := (Ch.refl _ _).alloc _
  have C2 : Ch [] w (w.alloc (.cells #[.int .u64 a, .int .u64 b] 24)) := (Ch.refl _ _).alloc _
  have S1 := shade_any _ ao cap h (some ⟨w.heap.size, 0, none⟩) 1 1 [a] hn (by omega) (hr.ch C1 (by simp)) (one_rd w a) hh (by simpa using ha) (Bnd.ch hB C1 (by simp))
  have S2 := shade_any _ ao cap h (some ⟨w.heap.size, 0, none⟩) 2 2 [a, b] hn (by omega) (hr.ch C2 (by simp)) (two_rd w a b) hh (by simpa using ⟨ha, hb⟩) (Bnd.ch hB C2 (by simp))
  have HC1 := Lib.hid C1
  have HC2 := Lib.hid C2
  have HN := Lib.hid (Mk1.nil 3 w w (Ch.refl _ _))
  unfold storeL
  clear hr hh ha hb hB C1 C2 hn
  cases ho : onP p
  · rw [ho] at ON
    clear ho
    simp only [Bool.false_eq_true, if_false]
    generalize hR : Mk1 3 (nv []) ([] : List Nat).length w = R
    have HR := Lib.hid hR
    clear hR S1 S2
    go_enter Tryd.func13, Tryd.ntmps13
    go_wp2_with fail
    refine ON.mono ?_
    rintro e w2 ⟨rfl, rfl⟩
    go_wp2_with fail
    rw [← HR.out]
    exact HN.out
  · rw [ho] at ON
    clear ho
    simp only [if_true]
    cases s
    · simp only [Bool.false_eq_true, if_false]
      have HM := Lib.hid (fun en w' (hm : Mk1 3 (nv (shadeL h [a, b])) (shadeL h [a, b]).length _ en w') => hm.ch HC2.out)
      generalize hR : Mk1 3 (nv (shadeL h [a, b])) (shadeL h [a, b]).length w = R
      have HR := Lib.hid hR
      clear hR S1
      go_enter Tryd.func13, Tryd.ntmps13
      go_wp2_with fail
      refine ON.mono ?_
      rintro e w2 ⟨rfl, rfl⟩
      go_wp2_with fail
      refine S2.mono ?_
      rintro e w3 hm
      have Z := HM.out _ _ hm
      obtain ⟨v, qs, rfl, g1, g2, g3⟩ := hm
      clear g1 g2 g3
      go_wp2_with fail
      rw [← HR.out]
      exact Z
    · simp only [if_true]
      have HM := Lib.hid (fun en w' (hm : Mk1 3 (nv (shadeL h [a])) (shadeL h [a]).length _ en w') => hm.ch HC1.out)
      generalize hR : Mk1 3 (nv (shadeL h [a])) (shadeL h [a]).length w = R
      have HR := Lib.hid hR
      clear hR S2
      go_enter Tryd.func13, Tryd.ntmps13
      go_wp2_with fail
      refine ON.mono ?_
      rintro e w2 ⟨rfl, rfl⟩
      go_wp2_with fail
      refine S1.mono ?_
      rintro e w3 hm
      have Z := HM.out _ _ hm
      obtain ⟨v, qs, rfl, g1, g2, g3⟩ := hm
      clear g1 g2 g3
      go_wp2_with fail
      rw [← HR.out]
      exact Z
theorem Fill_any (hn : h.length ≤ 1000000) (hr : RdF w ao (h.length * 4) (flat h) []) (hh : ∀ x ∈ h, InR x) (ha : Gp.u64 a) (hb : Gp.u64 b) (hB : Bnd w) :
    Calls Tryd.prog 14 #[.int .u8 p, .bool s, .int .u64 a, .int .u64 b, .slice ao h.length cap] w (Mk1 3 (nv (fillL p s a b h)) (fillL p s a b h).length w) := by
  have ON := on_any w p
  have C2 : Ch [] w (w.alloc (.cells #[.int .u64 a, .int .u64 b] 24)) := (Ch.refl _ _).alloc _
  have S2 := shade_any _ ao cap h (some ⟨w.heap.size, 0, none⟩) 2 2 [a, b] hn (by omega) (hr.ch C2 (by simp)) (two_rd w a b) hh (by simpa using ⟨ha, hb⟩) (Bnd.ch hB C2 (by simp))
  have HC2 := Lib.hid C2
  have HN := Lib.hid (Mk1.nil 3 w w (Ch.refl _ _))
  unfold fillL
  clear hr hh ha hb hB C2 hn
  cases ho : onP p
  · rw [ho] at ON
    clear ho
    simp only [Bool.false_and, Bool.false_eq_true, if_false]
    generalize hR : Mk1 3 (nv []) ([] : List Nat).length w = R
    have HR := Lib.hid hR
    clear hR S2
    go_enter Tryd.func14, Tryd.ntmps14
    go_wp2_with fail
    refine ON.mono ?_
    rintro e w2 ⟨rfl, rfl⟩
    go_wp2_with fail
    rw [← HR.out]
    exact HN.out
  · rw [ho] at ON
    clear ho
    cases s
    · simp only [Bool.not_false, Bool.and_true, if_true]
      have HM := Lib.hid (fun en w' (hm : Mk1 3 (nv (shadeL h [a, b])) (shadeL h [a, b]).length _ en w') => hm.ch HC2.out)
      generalize hR : Mk1 3 (nv (shadeL h [a, b])) (shadeL h [a, b]).length w = R
      have HR := Lib.hid hR
      clear hR
      go_enter Tryd.func14, Tryd.ntmps14
      go_wp2_with fail
      refine ON.mono ?_
      rintro e w2 ⟨rfl, rfl⟩
      go_wp2_with fail
      refine S2.mono ?_
      rintro e w3 hm
      have Z := HM.out _ _ hm
      obtain ⟨v, qs, rfl, g1, g2, g3⟩ := hm
      clear g1 g2 g3
      go_wp2_with fail
      rw [← HR.out]
      exact Z
    · simp only [Bool.not_true, Bool.and_false, Bool.false_eq_true, if_false]
      generalize hR : Mk1 3 (nv []) ([] : List Nat).length w = R
      have HR := Lib.hid hR
      clear hR S2
      go_enter Tryd.func14, Tryd.ntmps14
      go_wp2_with fail
      refine ON.mono ?_
      rintro e w2 ⟨rfl, rfl⟩
      go_wp2_with fail
      rw [← HR.out]
      exact HN.out
theorem Birth_any (cell swept : Int) : Calls Tryd.prog 21 #[.int .u8 p, .int .i64 cell, .int .i64 swept] w fun e w' => e = .returned (.int .u8 (birthC p cell swept)) ∧ w' = w := by
  have ON := on_any w p
  unfold birthC
  cases ho : onP p
  · rw [ho] at ON
    clear ho
    by_cases h3 : p = 3
    · subst h3
      by_cases hs : swept ≤ cell
      · go_enter Tryd.func21, Tryd.ntmps21
        go_wp2_with fail
        refine ON.mono ?_
        rintro e w2 ⟨rfl, rfl⟩
        go_wp2_with fail
        all_goals
          go_ret
          exact ⟨by first | (simp [hs]; done) | (simp; omega), rfl⟩
      · go_enter Tryd.func21, Tryd.ntmps21
        go_wp2_with fail
        refine ON.mono ?_
        rintro e w2 ⟨rfl, rfl⟩
        go_wp2_with fail
        all_goals
          go_ret
          exact ⟨by first | (simp [hs]; done) | (simp; omega), rfl⟩
    · have h3' : (p == 3) = false := by simpa using h3
      rw [h3']
      clear h3
      go_enter Tryd.func21, Tryd.ntmps21
      go_wp2_with fail
      refine ON.mono ?_
      rintro e w2 ⟨rfl, rfl⟩
      go_wp2_with fail
      go_ret
      exact ⟨by simp, rfl⟩
  · rw [ho] at ON
    clear ho
    go_enter Tryd.func21, Tryd.ntmps21
    go_wp2_with fail
    refine ON.mono ?_
    rintro e w2 ⟨rfl, rfl⟩
    go_wp2_with fail
    go_ret
    exact ⟨by simp, rfl⟩
end
end Go.Proofs.YtlhhcocdhkbdnaaDoor.Bp
