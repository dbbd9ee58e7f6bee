/-
  THE WALK of graph.order.
-/
import Derived.Test.YtggijcebobjghaaDoorGraph2
set_option linter.unusedVariables false
set_option linter.unusedSimpArgs false
set_option maxRecDepth 100000
namespace Go.Proofs.YtggijcebobjghaaDoor.Gr
open Go.RowKit Go.Proofs.YtggijcebobjghaaDoor.Wd Go.Proofs.YtggijcebobjghaaDoor.Hp Go.Proofs.YtggijcebobjghaaDoor.Gp Go.Proofs.YtggijcebobjghaaDoor.Sm

def bv (l : List Bool) : List Value := l.map Value.bool
def nv (l : List Nat) : List Value := l.map fun (c : Nat) => .int .i64 (c : Int)
theorem bv_len (l : List Bool) : (bv l).length = l.length := by simp [bv]
theorem nv_len (l : List Nat) : (nv l).length = l.length := by simp [nv]
theorem nv_snoc (l : List Nat) (c : Nat) : nv (l ++ [c]) = nv l ++ [.int .i64 c] := by simp [nv]
theorem bv_at (l : List Bool) (c : Nat) (h : c < l.length) : (bv l)[c]? = some (.bool (l.getD c true)) := by simp [bv, h]
theorem nv_at (l : List Nat) (c : Nat) (h : c < l.length) : (nv l)[c]? = some (.int .i64 (l.getD c 0)) := by simp [nv, h]
theorem bv_set (l : List Bool) (c : Nat) (b : Bool) : (bv l).toArray.setIfInBounds c (.bool b) = (bv (l.set c b)).toArray := by
  simp [bv, List.map_set]
theorem infoBool : (Tryd.prog.info? 4).map (fun i => (i.zero, i.size, i.bytes)) = some (some (.bool false), 1, 1) := by kernel_rfl
theorem infoInt : (Tryd.prog.info? 3).map (fun i => (i.zero, i.size, i.bytes)) = some (some (.int .i64 0), 1, 8) := by kernel_rfl
theorem made_one (v : Value) : ∀ n : Nat, madeCells #[v] n = (List.replicate n v).toArray := by
  intro n
  apply Array.ext_getElem?
  intro i
  by_cases h : i < n
  · simp [madeCells, h, Nat.mod_one]
  · simp [madeCells, h]
theorem run_make_bools (w : World) (n : Nat) (h : n ≤ 1000000) : (Instr.makeSlice 68 (.int .i64 (n : Int)) (.int .i64 (n : Int))).run Tryd.prog w = .ok (.slice (some ⟨w.heap.size, 0, none⟩) n n) (w.alloc (.cells (bv (List.replicate n false)).toArray 4)) := by
  obtain ⟨i, hi, he⟩ := Option.map_eq_some_iff.1 infoBool
  simp only [Prod.mk.injEq] at he
  obtain ⟨e1, e2, e3⟩ := he
  have := run_make (P := Tryd.prog) w 68 4 i _ Tryd.underlying68 hi e1 .i64 .i64 n n (by omega) (by omega) (by rw [e3]; omega) (by omega)
  rw [this, e2]
  have e4 : (Value.bool false).cells = #[.bool false] := rfl
  simp only [Int.toNat_natCast]
  rw [e4, Nat.mul_one, made_one, show bv (List.replicate n false) = List.replicate n (.bool false) by simp [bv]]

structure MS (pm pr mb n : Nat) (w : World) (s : St) (T : List Nat) : Prop where
  inv : Inv n s
  hpm : w.heap[pm]? = some (.cells #[.slice (some ⟨mb, 0, none⟩) n n] 68 (0, 0))
  hmb : w.heap[mb]? = some (.cells (bv s.1).toArray 4 (0, 0))
  ne : pm ≠ pr ∧ pm ≠ mb ∧ pr ≠ mb
  row : ∃ qs v, T = pr :: mb :: qs ∧ w.heap[pr]? = some (.cells #[v] 59 (0, 0)) ∧ Row w 3 1 v qs s.2.length (nv s.2) ∧ ∀ q ∈ qs, (q ≠ pm ∧ q ≠ pr ∧ q ≠ mb) ∧ q < w.heap.size
theorem MS.ch {pm pr mb n : Nat} {w w' : World} {s : St} {T : List Nat} (h : MS pm pr mb n w s T) (hc : Ch [] w w') : MS pm pr mb n w' s T := by
  obtain ⟨a, b, c, d, qs, v, e, f, g, i⟩ := h
  exact ⟨a, hc.heap b (by simp), hc.heap c (by simp), d, qs, v, e, hc.heap f (by simp), g.ch hc (by simp), fun q hq => ⟨(i q hq).1, Nat.lt_of_lt_of_le (i q hq).2 hc.size⟩⟩
theorem meet_steps (pm pr mb n : Nat) (hn : n ≤ 1000000) : Steps 82 pm pr (MS pm pr mb n) meet (fun c => c < n) := by
  intro w s T c hI hc
  obtain ⟨hinv, hpm, hmb, ⟨d1, d2, d3⟩, qs, v, hT, hpr, hrow, hd⟩ := hI
  obtain ⟨ms, l⟩ := s
  have hml : ms.length = n := hinv.len
  have hle : l.length ≤ n := hinv.le
  change Row w 3 1 v qs l.length (nv l) at hrow
  change w.heap[mb]? = some (.cells (bv ms).toArray 4 (0, 0)) at hmb
  have hI : MS pm pr mb n w (ms, l) T := ⟨hinv, hpm, hmb, ⟨d1, d2, d3⟩, qs, v, hT, hpr, hrow, hd⟩
  have HI := Lib.hid hI
  have HINV := Lib.hid (hinv.meet c hc)
  have a1 : w.cell? ⟨pm, 0, none⟩ = some (.slice (some ⟨mb, 0, none⟩) n n) := by rw [cell_at hpm]; rfl
  have a2 : w.cell? ⟨mb, c, none⟩ = some (.bool (ms.getD c true)) := by rw [cell_at hmb, List.getElem?_toArray]; exact bv_at _ _ (by simpa [hml] using hc)
  have ltI : (c : Int) < n := by omega
  clear hI
  cases hb : ms.getD c true
  · have hme : meet (ms, l) c = (ms.set c true, l ++ [c]) := by unfold meet; rw [show (ms, l).1.getD c true = false from hb]; rfl
    rw [hme] at HINV ⊢
    rw [hb] at a2
    obtain ⟨ao, cap, rfl, r1, r2, r3⟩ := hrow.rd
    have C1 : Ch [mb] w (w.setCell ⟨mb, c, none⟩ (.bool true)) := (Ch.refl _ _).setCell _ _ (.inl (by simp))
    have fr := free_at (i := c) hmb
    have b1 : (w.setCell ⟨mb, c, none⟩ (.bool true)).cell? ⟨pr, 0, none⟩ = some (.slice ao l.length cap) := C1.cell (by rw [cell_at hpr]; rfl) (by simpa using d3)
    have m1 := heap_set (i := c) hmb (.bool true)
    rw [bv_set] at m1
    have C2 := C1.alloc (.cells #[.int .i64 c] 3)
    have R2 := hrow.ch C2 (fun q hq => by simpa using (hd q hq).1.2.2)
    have HN := Lib.hid (newL (w := w.setCell ⟨mb, c, none⟩ (.bool true)) (b := w.heap.size) (by simp [World.setCell]) [.int .i64 c] 3)
    have pr2 := C2.heap hpr (by simpa using d3)
    have pm2 := C2.heap hpm (by simpa using d2)
    have mb2 := heap_old (o' := .cells #[.int .i64 c] 3) m1
    obtain ⟨i0, hi, he⟩ := Option.map_eq_some_iff.1 infoInt
    simp only [Prod.mk.injEq] at he
    obtain ⟨hz0, hz1, hz2⟩ := he
    have HPR := Lib.hid pr2
    have HPM := Lib.hid pm2
    have HMB := Lib.hid mb2
    have HC2 := Lib.hid C2
    have HD := Lib.hid hd
    have HR := Lib.hid R2
    have HT := Lib.hid hT
    have hprl : w.heap.size > pr := lt_of hpr
    have hmbl : w.heap.size > mb := lt_of hmb
    have hpml : w.heap.size > pm := lt_of hpm
    have HL := Lib.hid (And.intro hprl (And.intro hmbl hpml))
    clear hb hinv hpm hmb hpr hrow hd m1 C2 R2 pr2 pm2 mb2 hT C1 r3 hprl hmbl hpml HI hme
    go_enter Tryd.func82, Tryd.ntmps82
    go_wp2_with (at_builtin; refine wpList_append_row _ rfl _ _ 59 rfl 3 i0 (.int .i64 0) 1 8 Tryd.underlying59 hi hz0 hz1 hz2 rfl (by decide) rfl HR.out ⟨w.heap.size, 0, none⟩ 1 1 [.int .i64 c] rfl rfl HN.out (one1 _ _) (by unfold maxLen; omega) (by omega) ?_)
    intro v' w1 qs' hr4 hc4 hq4
    have p1 : w1.heap[pr]? = _ := hc4.heap HPR.out (fun hm => (HD.out _ hm).1.2.1 rfl)
    have p2 : w1.heap[pm]? = _ := hc4.heap HPM.out (fun hm => (HD.out _ hm).1.1 rfl)
    have p3 : w1.heap[mb]? = _ := hc4.heap HMB.out (fun hm => (HD.out _ hm).1.2.2 rfl)
    obtain ⟨ao', cap', rfl, _⟩ := hr4.rd
    have P1 := Lib.hid p1
    have P2 := Lib.hid p2
    have P3 := Lib.hid p3
    have c1 := cell_at (i := 0) p1
    simp only [List.getElem?_toArray, List.getElem?_cons_zero] at c1
    have f1 := free_at (i := 0) p1
    have HR4 := Lib.hid hr4
    have HC4 := Lib.hid hc4
    have HQ4 := Lib.hid hq4
    clear hr4 hc4 hq4 p1 p2 p3
    go_wp2_with fail
    go_end0
    have CC : Ch (pr :: mb :: qs) w (w1.setCell ⟨pr, 0, none⟩ (.slice ao' (l.length + 1) cap')) := ((HC2.out.mono (T := pr :: mb :: qs) (fun x hx => by simp at hx; subst hx; simp)).trans HC4.out (fun x hx => .inl (by simp [hx]))).setCell _ _ (.inl (by simp))
    have hs : w.heap.size < w1.heap.size := by have := HC2.out.size; have h2 := HC4.out.size; simp [World.setCell] at h2; omega
    have hnew : ∀ q ∈ qs', q ∈ qs ∨ w.heap.size ≤ q := fun q hq => by
      rcases HQ4.out with e | ⟨q', e, h3, h4⟩
      · rw [e] at hq; exact .inl hq
      · rw [e] at hq; simp at hq; subst hq; right; try simp [World.setCell] at h3
        omega
    have hs1 : (w1.setCell ⟨pr, 0, none⟩ (.slice ao' (l.length + 1) cap')).heap.size = w1.heap.size := by simp [World.setCell]
    have hd' : ∀ q ∈ qs', (q ≠ pm ∧ q ≠ pr ∧ q ≠ mb) ∧ q < (w1.setCell ⟨pr, 0, none⟩ (.slice ao' (l.length + 1) cap')).heap.size := fun q hq => by
      refine ⟨?_, ?_⟩
      · rcases hnew q hq with h | h
        · exact (HD.out q h).1
        · have := HL.out; omega
      · rw [hs1]
        rcases HQ4.out with e | ⟨q', e, h3, h4⟩
        · rw [e] at hq; have := (HD.out q hq).2; omega
        · rw [e] at hq; simp at hq; subst hq; exact h4
    refine ⟨rfl, pr :: mb :: qs', ⟨HINV.out, ?_, ?_, ⟨d1, d2, d3⟩, qs', _, rfl, heap_set (i := 0) P1.out _, ?_, hd'⟩, ?_, fun t ht => ?_⟩
    · rw [heap_set_ne d1]; exact P2.out
    · rw [heap_set_ne (Ne.symm d3)]; exact P3.out
    · have := (HR4.out.keep (w' := w1.setCell ⟨pr, 0, none⟩ (.slice ao' (l.length + 1) cap')) (fun q hq o ho => (heap_set_ne (hd' q hq).1.2.1).trans ho))
      rw [nv_snoc]
      simpa using this
    · rw [HT.out]; exact CC
    · rw [HT.out]
      simp only [List.mem_cons] at ht ⊢
      rcases ht with h | h | h
      · exact .inl (.inl h)
      · exact .inl (.inr (.inl h))
      · exact (hnew t h).imp (fun h => .inr (.inr h)) id
  · have hme : meet (ms, l) c = (ms, l) := by unfold meet; rw [show (ms, l).1.getD c true = true from hb]; rfl
    rw [hme]
    rw [hb] at a2
    clear hb hinv hpm hmb hpr hrow hd hT hme HINV
    go_enter Tryd.func82, Tryd.ntmps82
    go_wp2_with fail
    go_end0
    exact ⟨rfl, T, HI.out, Ch.refl _ _, fun t ht => .inl ht⟩

theorem each_all {α : Type} {f : α → Nat → α} {P : α → Prop} {ok : Nat → Prop} (hf : ∀ s c, P s → ok c → P (f s c)) : ∀ (l : List Int) (s : α), P s → (∀ v ∈ l, isRef v = true → ok (cellN v).toNat) → P (eachW f s l)
  | [], s, h, _ => h
  | x :: l, s, h, hk => by
    show P (eachW f (if isRef x then f s (cellN x).toNat else s) l)
    refine each_all hf l _ ?_ (fun v hv => hk v (by simp [hv]))
    split
    · next hr => exact hf s _ h (hk x (by simp) hr)
    · exact h
theorem isWord_ok {w : Int} {n : Nat} (h : isWord w n = true) (hr : isRef w = true) : (cellN w).toNat < n := by
  unfold isWord at h
  rw [hr] at h
  have := cellN_range w
  simp at h
  omega
theorem may_roots {h : List Cel} {ws : List Int} (hm : may h ws = true) : ∀ v ∈ ws, isRef v = true → (cellN v).toNat < h.length := by
  intro v hv hr
  unfold may at hm
  simp only [Bool.and_eq_true, List.all_eq_true] at hm
  exact isWord_ok (hm.2 v hv) hr
theorem may_cells {h : List Cel} {ws : List Int} (hm : may h ws = true) (c : Nat) (hc : c < h.length) : ∀ v ∈ wordsOf h c, isRef v = true → (cellN v).toNat < h.length := by
  intro v hv hr
  unfold may at hm
  simp only [Bool.and_eq_true] at hm
  have := (all_getD _ _).1 hm.1 c hc
  unfold okCell at this
  unfold wordsOf at hv
  split at hv
  · cases hv
  · next hk =>
    simp only [Bool.and_eq_true, Bool.or_eq_true, beq_iff_eq] at this
    have h2 := this.2.resolve_left hk
    simp at hv
    rcases hv with rfl | rfl
    · exact isWord_ok h2.1 hr
    · exact isWord_ok h2.2 hr
theorem inv_lt {n : Nat} {s : St} (h : Inv n s) (i : Nat) (hi : i < s.2.length) : s.2.getD i 0 < n := by
  have : s.2.getD i 0 ∈ s.2 := by rw [show s.2.getD i 0 = s.2[i] by simp [List.getD, hi]]; exact List.getElem_mem hi
  exact ((h.mem _).1 this).1
/-- What order answers: the row, of each cell whether it is met. -/
def OrdPost (h : List Cel) (ws : List Int) (w : World) (e : Ending) (w' : World) : Prop :=
  ∃ (v : Value) (qs : List Nat) (mb : Nat), e = .returned (.tuple #[v, .slice (some ⟨mb, 0, none⟩) h.length h.length]) ∧ Row w' 3 1 v qs (order h ws).2.length (nv (order h ws).2) ∧ w'.heap[mb]? = some (.cells (bv (order h ws).1).toArray 4 (0, 0)) ∧ Ch [] w w' ∧ w.heap.size ≤ mb ∧ mb ∉ qs ∧ ∀ q ∈ qs, w.heap.size ≤ q
set_option maxHeartbeats 1000000 in
theorem order_any (w : World) (ao : Option Addr) (cap : Nat) (h : List Cel) (aw : Option Addr) (m cw : Nat) (ws : List Int) (hn : h.length ≤ 1000000) (hm : m ≤ 1000000)
    (hr : RdF w ao (h.length * 4) (flat h) []) (hrw : RdF w aw m (ints .u64 ws) []) (hh : ∀ x ∈ h, InR x) (hu : ∀ v ∈ ws, u64 v) (hb : Bnd w) (hmay : may h ws = true) :
    Calls Tryd.prog 69 #[.slice ao h.length cap, .slice aw m cw] w (OrdPost h ws w) := by
  obtain ⟨n, hnl⟩ : ∃ n, n = h.length := ⟨_, rfl⟩
  have hn' : n ≤ 1000000 := by rw [hnl]; exact hn
  have hmk : ∀ w : World, _ := fun w => run_make_bools w n (by omega)
  -- the state that order makes
  obtain ⟨W, hW⟩ : ∃ W, W = ((w.alloc (.cells (bv (List.replicate n false)).toArray 4)).alloc (.cells #[.slice (some ⟨w.heap.size, 0, none⟩) n n] 68)).alloc (.cells #[.slice none 0 0] 59) := ⟨_, rfl⟩
  have h0 : MS (w.heap.size + 1) (w.heap.size + 2) w.heap.size n W (List.replicate n false, []) [w.heap.size + 2, w.heap.size] := by
    subst hW
    refine ⟨Inv.start n, ?_, ?_, by omega, [], .slice none 0 0, rfl, ?_, Row.nil _ _ _ _, by simp⟩
    · exact heap_old (by have := heap_new (w.alloc (.cells (bv (List.replicate n false)).toArray 4)) (.cells #[.slice (some ⟨w.heap.size, 0, none⟩) n n] 68); simpa using this)
    · exact heap_old (heap_old (heap_new w _))
    · have := heap_new ((w.alloc (.cells (bv (List.replicate n false)).toArray 4)).alloc (.cells #[.slice (some ⟨w.heap.size, 0, none⟩) n n] 68)) (.cells #[.slice none 0 0] 59); simpa using this
  have hC : Ch [] w W := by subst hW; exact (((Ch.refl _ _).alloc _).alloc _).alloc _
  have hWs : W.heap.size = w.heap.size + 3 := by subst hW; simp
  have ms := meet_steps (w.heap.size + 1) (w.heap.size + 2) w.heap.size n (by omega)
  have hbl := Bnd.block hb
  have hTn : ∀ t ∈ [w.heap.size + 2, w.heap.size], w.heap.size ≤ t := by intro t ht; simp at ht; omega
  have EO := each_order _ _ _ _ _ ms W _ _ h0 aw m cw ws hm (hrw.ch hC (fun t ht => .inr (hTn t ht))) (Bnd.ch hb hC (by simp)) (fun hx => by have := hTn _ hx; omega) hu (by rw [hnl]; exact may_roots hmay)
  have EN := fun (wr : World) (s : St) (T : List Nat) (hI : MS (w.heap.size + 1) (w.heap.size + 2) w.heap.size n wr s T) (hTl : ∀ t ∈ T, t < wr.heap.size) (hCr : Ch [] w wr) (hTw : ∀ t ∈ T, w.heap.size ≤ t) (c : Nat) (hc : c < h.length) => named_order _ _ _ _ _ ms (fun w w' s T h1 h2 => h1.ch h2) wr s T hI hTl ao cap h c hc hn (hr.ch hCr (fun t ht => .inr (hTw t ht))) hh (Bnd.ch hb hCr (by simp)) (fun hx => by have := hTw _ hx; omega) (by rw [hnl]; exact may_cells hmay c hc)
  have HEN := Lib.hid EN
  have HO : Hid (orderL h (n + 1) 0 (eachW meet (List.replicate n false, []) ws) = order h ws) := Lib.hid (by rw [hnl]; rfl)
  have HH := Lib.hid hnl
  have HC := Lib.hid hC
  have HT := Lib.hid hTn
  obtain ⟨s0, hs0⟩ : ∃ s0, s0 = eachW meet (List.replicate n false, []) ws := ⟨_, rfl⟩
  rw [← hs0] at EO HO
  obtain ⟨R, hR⟩ : ∃ R, R = OrdPost h ws w := ⟨_, rfl⟩
  have HR := Lib.hid hR
  rw [← hR]
  rw [← hnl] at HEN ⊢
  clear hnl
  rw [hW] at EO
  clear EN hC hTn hs0 hR ms h0 hr hrw hh hu hb hmay hbl
  go_enter Tryd.func69, Tryd.ntmps69
  go_wp2_with fail
  refine EO.mono ?_
  rintro e w2 ⟨rfl, T, g1, g2, g3⟩
  rw [← hW] at g2 g3
  have c2 : Ch [] w w2 := HC.out.trans g2 (fun t ht => .inr (HT.out t ht))
  have t2 : ∀ t ∈ T, w.heap.size ≤ t := fun t ht => (g3 t ht).elim (HT.out t) (fun hh => Nat.le_trans HC.out.size hh)
  have G1 := Lib.hid g1
  have C2 := Lib.hid c2
  have T2 := Lib.hid t2
  clear EO g1 g2 g3 c2 t2 HT HC hW hWs hmk
  go_wp2_with fail
  go_loopw [9] (fun i wr => ∃ (j : Nat) (s : St) (T : List Nat), i = .int .i64 j ∧ j ≤ n ∧ MS (w.heap.size + 1) (w.heap.size + 2) w.heap.size n wr s T ∧ orderL h (n + 1 - j) j s = order h ws ∧ Ch [] w wr ∧ ∀ t ∈ T, w.heap.size ≤ t) (fun i _ => n - (intOf i).toNat)
  case atStart => exact ⟨0, s0, T, rfl, by omega, G1.out, HO.out, C2.out, T2.out⟩
  case round =>
    obtain ⟨j, s, T3, rfl, hjn, hms, ho, hc3, ht3⟩ := hrel
    clear G1 C2 T2
    obtain ⟨hinv, hpm, hmb, ⟨d1, d2, d3⟩, qs, v, hTe, hpr, hrow, hd⟩ := hms
    have hms : MS (w.heap.size + 1) (w.heap.size + 2) w.heap.size n wr s T3 := ⟨hinv, hpm, hmb, ⟨d1, d2, d3⟩, qs, v, hTe, hpr, hrow, hd⟩
    obtain ⟨ao', cap', rfl, r1, r2, r3⟩ := hrow.rd
    have a1 := cell_at (i := 0) hpr
    simp only [List.getElem?_toArray, List.getElem?_cons_zero] at a1
    have hle : s.2.length ≤ n := hinv.le
    have a2 := cell_at (i := 0) hpm
    simp only [List.getElem?_toArray, List.getElem?_cons_zero] at a2
    have HHO := Lib.hid ho
    have HC3 := Lib.hid hc3
    have HT3 := Lib.hid ht3
    have HMS := Lib.hid hms
    have hTl : ∀ t ∈ T3, t < wr.heap.size := by
      intro t ht
      rw [hTe] at ht
      simp only [List.mem_cons] at ht
      rcases ht with rfl | rfl | h
      · exact lt_of hpr
      · exact lt_of hmb
      · exact (hd t h).2
    by_cases hlt : j < s.2.length
    · have hcn := inv_lt hinv j hlt
      obtain ⟨b, off, rfl, hj⟩ := r3.2.resolve_left (by omega)
      have a3 := (hj j (by omega)).trans (nv_at _ _ hlt)
      have CN := HEN.out wr s T3 hms hTl hc3 ht3 (s.2.getD j 0) hcn
      have e1 : orderL h (n + 1 - j) j s = orderL h (n + 1 - (j + 1)) (j + 1) (named h meet s (s.2.getD j 0)) := by
        rw [show n + 1 - j = (n + 1 - (j + 1)) + 1 by omega, orderL, if_pos hlt]
      have E1 := Lib.hid e1
      have hmg : ∀ t ∈ T3, t ∈ T3 := fun t ht => ht
      have ltI : (j : Int) < s.2.length := by omega
      clear hinv hpm hmb hTe hpr hrow hd hj ho hc3 ht3 hms r3 hTl HMS e1 HH HO hmg
      generalize s.2.getD j 0 = c at *
      generalize s.2.length = len at *
      go_wp2_with fail
      refine CN.mono ?_
      rintro e w3 ⟨rfl, T4, g1, g2, g3⟩
      have G1 := Lib.hid g1
      have C4 := Lib.hid (HC3.out.trans g2 (fun t ht => .inr (HT3.out t ht)))
      have T4' : Hid (∀ t ∈ T4, w.heap.size ≤ t) := Lib.hid (fun t ht => (g3 t ht).elim (HT3.out t) (fun hh => Nat.le_trans HC3.out.size hh))
      clear CN g1 g2 g3
      go_wp2_with fail
      go_roundw
      case rel => exact ⟨j + 1, _, T4, by go_num, by omega, G1.out, by rw [← E1.out]; exact HHO.out, C4.out, T4'.out⟩
      case measure => simp [intOf]; omega
    · have e1 : orderL h (n + 1 - j) j s = s := by
        generalize n + 1 - j = k
        cases k with
        | zero => rfl
        | succ k => rw [orderL, if_neg hlt]
      have E1 := Lib.hid (e1.symm.trans ho)
      have ltI : ¬ (j : Int) < s.2.length := by omega
      have HROW := Lib.hid hrow
      have HMB := Lib.hid hmb
      have HD := Lib.hid hd
      have HTE := Lib.hid hTe
      clear hinv hpm hmb hTe hpr hrow hd ho hc3 ht3 hms r3 hTl HMS e1 HO
      obtain ⟨len, hlen⟩ : ∃ len, len = s.2.length := ⟨_, rfl⟩
      rw [← hlen] at *
      have HLEN := Lib.hid hlen
      clear hlen
      go_wp2_with fail
      go_quiet (fail)
      go_wp2_with fail
      rw [HR.out]
      unfold OrdPost
      rw [← HH.out, ← E1.out]
      refine ⟨_, qs, w.heap.size, rfl, HROW.out.keep (fun q _ o ho => ho), HMB.out, HC3.out.drewN _, Nat.le_refl _, fun hq => (HD.out _ hq).1.2.2 rfl, fun q hq => HT3.out q (by rw [HTE.out]; simp [hq])⟩
end Go.Proofs.YtggijcebobjghaaDoor.Gr
