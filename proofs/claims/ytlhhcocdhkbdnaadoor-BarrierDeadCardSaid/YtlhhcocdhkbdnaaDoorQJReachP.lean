/-
  PLAIN LAWS (no program): a heap of cells as a list; what is reached, as graph.order meets it.
  THE WALKS of package graph: isWord; each, named, for whatever they hand cells to.
  THE WALKS of graph.Check, may.
  THE WALK of graph.order.
  THE WALKS of graph.Reach, Order, Form.
  THE WALK of graph.Form.
  PLAIN LAWS (no program): the reference's Order goes along ONE row of words; it meets what graph.order meets, in the same order.
  PLAIN LAWS (no program): what graph.order meets is just what is reached.
-/
import Derived.Test.YtlhhcocdhkbdnaaDoorQJWords
import Derived.Test.YtlhhcocdhkbdnaaDoorQJApp
import Derived.StillTail
import Derived.StillTactics
set_option linter.unusedVariables false
set_option linter.unusedSimpArgs false
namespace Go.Proofs.YtlhhcocdhkbdnaaDoor.Gp
open Go.RowKit Go.Proofs.YtlhhcocdhkbdnaaDoor.Wd Go.Proofs.YtlhhcocdhkbdnaaDoor.Hp

structure Cel where
  k : Int
  c : Int
  a : Int
  b : Int
  deriving DecidableEq
def z : Cel := ⟨0, 0, 0, 0⟩
def celV (x : Cel) : List Value := [.int .u8 x.k, .int .u8 x.c, .int .u64 x.a, .int .u64 x.b]
def flat (l : List Cel) : List Value := l.flatMap celV
theorem flat_len : ∀ l : List Cel, (flat l).length = l.length * 4
  | [] => rfl
  | x :: l => by simp only [flat, List.flatMap_cons, List.length_append, List.length_cons]; have := flat_len l; simp only [flat] at this; rw [this]; simp [celV]; omega
theorem flat_get : ∀ (l : List Cel) (i t : Nat), i < l.length → t < 4 → (flat l)[i * 4 + t]? = (celV (l.getD i z))[t]?
  | [], i, t, h, _ => absurd h (by simp)
  | x :: l, 0, t, _, ht => by
    simp only [flat, List.flatMap_cons, List.getD_cons_zero, Nat.zero_mul, Nat.zero_add]
    rw [List.getElem?_append_left (by simp [celV]; omega)]
  | x :: l, i + 1, t, h, ht => by
    simp only [flat, List.flatMap_cons, List.getD_cons_succ]
    rw [List.getElem?_append_right (by simp [celV]; omega)]
    have := flat_get l i t (by simpa using h) ht
    simp only [flat] at this
    rw [← this]
    congr 1
    simp [celV]; omega
theorem flat_append (a b : List Cel) : flat (a ++ b) = flat a ++ flat b := by simp [flat]
def u64 (x : Int) : Prop := 0 ≤ x ∧ x < 18446744073709551616
def InR (x : Cel) : Prop := 0 ≤ x.k ∧ x.k < 256 ∧ 0 ≤ x.c ∧ x.c < 256 ∧ u64 x.a ∧ u64 x.b
theorem InR.at {l : List Cel} (h : ∀ x ∈ l, InR x) (i : Nat) (hi : i < l.length) : InR (l.getD i z) := by
  rw [show l.getD i z = l[i] by simp [List.getD, hi]]; exact h _ (List.getElem_mem hi)

/-- May a word stand in a heap of n cells? -/
def isWord (w : Int) (n : Nat) : Bool := ofOk w && (!isRef w || decide (cellN w < n))
def okCell (n : Nat) (x : Cel) : Bool := !(decide (3 < x.k)) && !(decide (2 < x.c)) && (x.k == 0 || (isWord x.a n && isWord x.b n))
/-- The first cell that may not be. -/
def badAt (n : Nat) : List Cel → Nat → Option Nat
  | [], _ => none
  | x :: l, i => if okCell n x then badAt n l (i + 1) else some i
def may (h : List Cel) (roots : List Int) : Bool := h.all (okCell h.length) && roots.all (fun w => isWord w h.length)

abbrev St := List Bool × List Nat
def meet (s : St) (c : Nat) : St := if s.1.getD c true then s else (s.1.set c true, s.2 ++ [c])
def eachW {α : Type} (f : α → Nat → α) (s : α) (l : List Int) : α := l.foldl (fun s w => if isRef w then f s (cellN w).toNat else s) s
def wordsOf (h : List Cel) (c : Nat) : List Int := if (h.getD c z).k = 0 then [] else [(h.getD c z).a, (h.getD c z).b]
def named {α : Type} (h : List Cel) (f : α → Nat → α) (s : α) (c : Nat) : α := eachW f s (wordsOf h c)
/-- From the i-th one on. -/
def orderL (h : List Cel) : Nat → Nat → St → St
  | 0, _, s => s
  | k + 1, i, s => if i < s.2.length then orderL h k (i + 1) (named h meet s (s.2.getD i 0)) else s
def order (h : List Cel) (roots : List Int) : St := orderL h (h.length + 1) 0 (eachW meet (List.replicate h.length false, []) roots)

/-- What is so of every state: each cell at most once, and just those that are met. -/
structure Inv (n : Nat) (s : St) : Prop where
  len : s.1.length = n
  nd : s.2.Nodup
  mem : ∀ c, c ∈ s.2 ↔ c < n ∧ s.1.getD c true = true
theorem Inv.start (n : Nat) : Inv n (List.replicate n false, []) := by
  refine ⟨by simp, List.nodup_nil, fun c => ?_⟩
  constructor
  · intro h; cases h
  · rintro ⟨h1, h2⟩
    simp [List.getD_eq_getElem?_getD, h1] at h2
theorem Inv.meet {n : Nat} {s : St} (h : Inv n s) (c : Nat) (hc : c < n) : Inv n (meet s c) := by
  unfold Gp.meet
  cases hm : s.1.getD c true
  · simp only [Bool.false_eq_true, if_false]
    have hnm : c ∉ s.2 := fun hx => by have := ((h.mem c).1 hx).2; rw [hm] at this; cases this
    have hl := h.len
    refine ⟨by simpa using h.len, ?_, fun x => ?_⟩
    · rw [List.nodup_append]
      exact ⟨h.nd, by simp, fun a ha b hb => by simp at hb; subst hb; exact fun e => hnm (e ▸ ha)⟩
    · rw [List.mem_append, List.mem_singleton, h.mem x]
      by_cases e : x = c
      · subst e; simp [hc, List.getD_eq_getElem?_getD, show x < s.1.length by omega]
      · simp only [List.getD_eq_getElem?_getD, List.getElem?_set_ne (Ne.symm e), e, or_false]
  · simp only [if_true]; exact h
theorem Inv.le {n : Nat} {s : St} (h : Inv n s) : s.2.length ≤ n := by
  have hs : ∀ x ∈ s.2, x ∈ List.range n := fun x hx => List.mem_range.2 ((h.mem x).1 hx).1
  have := h.nd.length_le_of_subset hs
  simpa using this
end Go.Proofs.YtlhhcocdhkbdnaaDoor.Gp

set_option linter.unusedVariables false
set_option linter.unusedSimpArgs false
set_option maxRecDepth 100000
namespace Go.Proofs.YtlhhcocdhkbdnaaDoor.Gr
open Go.RowKit Go.Proofs.YtlhhcocdhkbdnaaDoor.Wd Go.Proofs.YtlhhcocdhkbdnaaDoor.Hp Go.Proofs.YtlhhcocdhkbdnaaDoor.Gp Go.Proofs.YtlhhcocdhkbdnaaDoor.Sm

theorem Bnd.ch {w w' : World} {T : List Nat} (h : Bnd w) (hc : Ch T w w') (hT : 0 ∉ T) : Bnd w' := fun t ht => ⟨hc.cell (h t ht).1 hT, hc.cell (h t ht).2 hT⟩
/-- A slice that reads as xs, in a block that is none of T. -/
def RdF (w : World) (ao : Option Addr) (m : Nat) (xs : List Value) (T : List Nat) : Prop := xs.length = m ∧ (m = 0 ∨ ∃ b off, ao = some ⟨b, off, none⟩ ∧ b ∉ T ∧ ∀ j, j < m → w.cell? ⟨b, off + j, none⟩ = xs[j]?)
theorem RdF.ch {w w' : World} {ao : Option Addr} {m : Nat} {xs : List Value} {T T' : List Nat} (h : RdF w ao m xs T) (hc : Ch T w w') (hT : ∀ t ∈ T', t ∈ T ∨ w.heap.size ≤ t) : RdF w' ao m xs T' := by
  obtain ⟨h1, h2⟩ := h
  refine ⟨h1, ?_⟩
  rcases h2 with h2 | ⟨b, off, ha, hb, hj⟩
  · exact .inl h2
  · by_cases h0 : m = 0
    · exact .inl h0
    · refine .inr ⟨b, off, ha, fun hm => ?_, fun j hlt => ?_⟩
      · rcases hT b hm with h | h
        · exact hb h
        · have h3 := hj 0 (by omega)
          rw [List.getElem?_eq_getElem (by omega)] at h3
          have := World.block_lt_of_cell? w _ h3
          simp at this; omega
      · have h3 := hj j hlt
        rw [List.getElem?_eq_getElem (by omega)] at h3 ⊢
        exact hc.cell h3 hb
theorem RdF.rd {w : World} {ao : Option Addr} {m : Nat} {xs : List Value} {T : List Nat} (h : RdF w ao m xs T) : Rd w ao m xs := ⟨h.1, h.2.imp id fun ⟨b, off, a, _, c⟩ => ⟨b, off, a, c⟩⟩

/-- What a function that is handed cells does: it goes on from state to state; of old memory it changes but its own blocks T. -/
def Steps {α : Type} (F x y : Nat) (I : World → α → List Nat → Prop) (f : α → Nat → α) (ok : Nat → Prop) : Prop :=
  ∀ w s T c, I w s T → ok c → Calls Tryd.prog F #[.int .i64 ((c : Nat) : Int), .pointer (some ⟨x, 0, none⟩), .pointer (some ⟨y, 0, none⟩)] w fun e w' => e = .returned (.tuple #[]) ∧ ∃ T', I w' (f s c) T' ∧ Ch T w w' ∧ ∀ t ∈ T', t ∈ T ∨ w.heap.size ≤ t
def EachPost {α : Type} (I : World → α → List Nat → Prop) (w : World) (s : α) (T : List Nat) (e : Ending) (w' : World) : Prop :=
  e = .returned (.tuple #[]) ∧ ∃ T', I w' s T' ∧ Ch T w w' ∧ ∀ t ∈ T', t ∈ T ∨ w.heap.size ≤ t
theorem eachW_snoc {α : Type} (f : α → Nat → α) (s : α) (l : List Int) (x : Int) : eachW f s (l ++ [x]) = if isRef x then f (eachW f s l) (cellN x).toNat else eachW f s l := by simp [eachW, List.foldl_append]
theorem wordsOf_u {h : List Cel} (hh : ∀ x ∈ h, InR x) (c : Nat) (hc : c < h.length) : ∀ v ∈ wordsOf h c, u64 v := by
  have := InR.at hh c hc
  intro v hv
  unfold wordsOf at hv
  split at hv
  · cases hv
  · simp at hv
    rcases hv with rfl | rfl
    · exact this.2.2.2.2.1
    · exact this.2.2.2.2.2
end Go.Proofs.YtlhhcocdhkbdnaaDoor.Gr

set_option linter.unusedVariables false
set_option linter.unusedSimpArgs false
set_option maxRecDepth 100000
namespace Go.Proofs.YtlhhcocdhkbdnaaDoor.Gr
open Go.RowKit Go.Proofs.YtlhhcocdhkbdnaaDoor.Wd Go.Proofs.YtlhhcocdhkbdnaaDoor.Hp Go.Proofs.YtlhhcocdhkbdnaaDoor.Gp Go.Proofs.YtlhhcocdhkbdnaaDoor.Sm

def checkE (h : List Cel) : Int := match badAt h.length h 0 with | none => 0 | some _ => 100
def checkI (h : List Cel) : Int := match badAt h.length h 0 with | none => 0 | some i => i
theorem badAt_none (n : Nat) : ∀ (l : List Cel) (i : Nat), (∀ j, j < l.length → okCell n (l.getD j z) = true) → badAt n l i = none
  | [], _, _ => rfl
  | x :: l, i, h => by
    have h0 := h 0 (by simp)
    simp only [List.getD_cons_zero] at h0
    rw [badAt, if_pos h0]
    exact badAt_none n l (i + 1) fun j hj => by have := h (j + 1) (by simpa using hj); simpa using this
theorem badAt_some (n : Nat) : ∀ (l : List Cel) (i k : Nat), k < l.length → (∀ j, j < k → okCell n (l.getD j z) = true) → okCell n (l.getD k z) = false → badAt n l i = some (i + k)
  | [], _, _, h, _, _ => absurd h (by simp)
  | x :: l, i, 0, _, _, hb => by
    simp only [List.getD_cons_zero] at hb
    rw [badAt, hb]; rfl
  | x :: l, i, k + 1, hk, h, hb => by
    have h0 := h 0 (by omega)
    simp only [List.getD_cons_zero] at h0
    rw [badAt, if_pos h0, badAt_some n l (i + 1) k (by simpa using hk) (fun j hj => by have := h (j + 1) (by omega); simpa using this) (by simpa using hb)]
    congr 1; omega
theorem all_getD (p : Cel → Bool) (l : List Cel) : l.all p = true ↔ ∀ j, j < l.length → p (l.getD j z) = true := by
  rw [List.all_eq_true]
  constructor
  · intro h j hj
    rw [show l.getD j z = l[j] by simp [List.getD, hj]]
    exact h _ (List.getElem_mem hj)
  · intro h x hx
    obtain ⟨j, hj, rfl⟩ := List.getElem_of_mem hx
    have := h j hj
    rwa [show l.getD j z = l[j] by simp [List.getD, hj]] at this
theorem checkE_ok (h : List Cel) : checkE h = 0 ↔ h.all (okCell h.length) = true := by
  rw [all_getD]
  unfold checkE
  constructor
  · intro he
    by_cases hx : ∀ j, j < h.length → okCell h.length (h.getD j z) = true
    · exact hx
    · have hx' : ∃ j, j < h.length ∧ okCell h.length (h.getD j z) = false := by
        apply Classical.byContradiction
        intro hn
        apply hx
        intro j hj
        cases ho : okCell h.length (h.getD j z) with
        | true => rfl
        | false => exact absurd ⟨j, hj, ho⟩ hn
      have : ∀ m, m < h.length → okCell h.length (h.getD m z) = false → badAt h.length h 0 ≠ none := by
        intro m
        induction m using Nat.strongRecOn with
        | _ m ih =>
          intro hm ho
          by_cases hf : ∀ j, j < m → okCell h.length (h.getD j z) = true
          · rw [badAt_some _ _ _ m hm hf ho]; simp
          · have : ∃ j, j < m ∧ okCell h.length (h.getD j z) = false := by
              apply Classical.byContradiction
              intro hn
              apply hf
              intro j hj
              cases hjo : okCell h.length (h.getD j z) with
              | true => rfl
              | false => exact absurd ⟨j, hj, hjo⟩ hn
            obtain ⟨j, hj, hjo⟩ := this
            exact ih j hj (by omega) hjo
      obtain ⟨j, hj, hjo⟩ := hx'
      have h3 := this j hj hjo
      revert he
      cases hb : badAt h.length h 0 with
      | none => exact absurd hb h3
      | some q => simp
  · intro hx
    rw [badAt_none _ _ _ hx]
theorem checkE_or (h : List Cel) : checkE h = 0 ∨ checkE h = 100 := by unfold checkE; split <;> simp
def ChkPost (h : List Cel) (w : World) (e : Ending) (w' : World) : Prop := e = .returned (.tuple #[.int .i64 (checkE h), .int .i64 (checkI h)]) ∧ Ch [] w w'
theorem ChkPost.bad {h : List Cel} {w w' : World} (k : Nat) (hk : k < h.length) (hf : ∀ j, j < k → okCell h.length (h.getD j z) = true) (ho : okCell h.length (h.getD k z) = false) (hc : Ch [] w w') : ChkPost h w (.returned (.tuple #[.int .i64 100, .int .i64 k])) w' := by
  refine ⟨?_, hc⟩
  unfold checkE checkI
  rw [badAt_some _ _ _ k hk hf ho]; simp
theorem ChkPost.good {h : List Cel} {w w' : World} (hf : ∀ j, j < h.length → okCell h.length (h.getD j z) = true) (hc : Ch [] w w') : ChkPost h w (.returned (.tuple #[.int .i64 0, .int .i64 0])) w' := by
  refine ⟨?_, hc⟩
  unfold checkE checkI
  rw [badAt_none _ _ _ hf]
theorem all_not_any (ws : List Int) (m : Nat) : ws.all (fun v => isWord v m) = !ws.any (fun v => !isWord v m) := by
  induction ws with
  | nil => rfl
  | cons x l ih => simp only [List.all_cons, List.any_cons, ih]; cases isWord x m <;> simp
end Go.Proofs.YtlhhcocdhkbdnaaDoor.Gr

set_option linter.unusedVariables false
set_option linter.unusedSimpArgs false
set_option maxRecDepth 100000
namespace Go.Proofs.YtlhhcocdhkbdnaaDoor.Gr
open Go.RowKit Go.Proofs.YtlhhcocdhkbdnaaDoor.Wd Go.Proofs.YtlhhcocdhkbdnaaDoor.Hp Go.Proofs.YtlhhcocdhkbdnaaDoor.Gp Go.Proofs.YtlhhcocdhkbdnaaDoor.Sm

def bv (l : List Bool) : List Value := l.map Value.bool
def nv (l : List Nat) : List Value := l.map fun (c : Nat) => .int .i64 (c : Int)
theorem bv_len (l : List Bool) : (bv l).length = l.length := by simp [bv]
theorem nv_len (l : List Nat) : (nv l).length = l.length := by simp [nv]
theorem nv_snoc (l : List Nat) (c : Nat) : nv (l ++ [c]) = nv l ++ [.int .i64 c] := by simp [nv]
theorem bv_at (l : List Bool) (c : Nat) (h : c < l.length) : (bv l)[c]? = some (.bool (l.getD c true)) := by simp [bv, h]
theorem nv_at (l : List Nat) (c : Nat) (h : c < l.length) : (nv l)[c]? = some (.int .i64 (l.getD c 0)) := by simp [nv, h]
theorem bv_set (l : List Bool) (c : Nat) (b : Bool) : (bv l).toArray.setIfInBounds c (.bool b) = (bv (l.set c b)).toArray := by
  simp [bv, List.map_set]
theorem infoBool : (Tryd.prog.info? 4).map (fun i => (i.zero, i.size, i.bytes)) = some (some (.bool false), 1, 1) := by kernel_rfl
theorem infoInt : (Tryd.prog.info? 3).map (fun i => (i.zero, i.size, i.bytes)) = some (some (.int .i64 0), 1, 8) := by kernel_rfl
theorem made_one (v : Value) : ∀ n : Nat, madeCells #[v] n = (List.replicate n v).toArray := by
  intro n
  apply Array.ext_getElem?
  intro i
  by_cases h : i < n
  · simp [madeCells, h, Nat.mod_one]
  · simp [madeCells, h]
theorem run_make_bools (w : World) (n : Nat) (h : n ≤ 1000000) : (Instr.makeSlice 73 (.int .i64 (n : Int)) (.int .i64 (n : Int))).run Tryd.prog w = .ok (.slice (some ⟨w.heap.size, 0, none⟩) n n) (w.alloc (.cells (bv (List.replicate n false)).toArray 4)) := by
  obtain ⟨i, hi, he⟩ := Option.map_eq_some_iff.1 infoBool
  simp only [Prod.mk.injEq] at he
  obtain ⟨e1, e2, e3⟩ := he
  have := run_make (P := Tryd.prog) w 73 4 i _ Tryd.underlying73 hi e1 .i64 .i64 n n (by omega) (by omega) (by rw [e3]; omega) (by omega)
  rw [this, e2]
  have e4 : (Value.bool false).cells = #[.bool false] := rfl
  simp only [Int.toNat_natCast]
  rw [e4, Nat.mul_one, made_one, show bv (List.replicate n false) = List.replicate n (.bool false) by simp [bv]]

structure MS (pm pr mb n : Nat) (w : World) (s : St) (T : List Nat) : Prop where
  inv : Inv n s
  hpm : w.heap[pm]? = some (.cells #[.slice (some ⟨mb, 0, none⟩) n n] 73 (0, 0))
  hmb : w.heap[mb]? = some (.cells (bv s.1).toArray 4 (0, 0))
  ne : pm ≠ pr ∧ pm ≠ mb ∧ pr ≠ mb
  row : ∃ qs v, T = pr :: mb :: qs ∧ w.heap[pr]? = some (.cells #[v] 50 (0, 0)) ∧ Row w 3 1 v qs s.2.length (nv s.2) ∧ ∀ q ∈ qs, (q ≠ pm ∧ q ≠ pr ∧ q ≠ mb) ∧ q < w.heap.size
theorem MS.ch {pm pr mb n : Nat} {w w' : World} {s : St} {T : List Nat} (h : MS pm pr mb n w s T) (hc : Ch [] w w') : MS pm pr mb n w' s T := by
  obtain ⟨a, b, c, d, qs, v, e, f, g, i⟩ := h
  exact ⟨a, hc.heap b (by simp), hc.heap c (by simp), d, qs, v, e, hc.heap f (by simp), g.ch hc (by simp), fun q hq => ⟨(i q hq).1, Nat.lt_of_lt_of_le (i q hq).2 hc.size⟩⟩
theorem each_all {α : Type} {f : α → Nat → α} {P : α → Prop} {ok : Nat → Prop} (hf : ∀ s c, P s → ok c → P (f s c)) : ∀ (l : List Int) (s : α), P s → (∀ v ∈ l, isRef v = true → ok (cellN v).toNat) → P (eachW f s l)
  | [], s, h, _ => h
  | x :: l, s, h, hk => by
    show P (eachW f (if isRef x then f s (cellN x).toNat else s) l)
    refine each_all hf l _ ?_ (fun v hv => hk v (by simp [hv]))
    split
    · next hr => exact hf s _ h (hk x (by simp) hr)
    · exact h
theorem isWord_ok {w : Int} {n : Nat} (h : isWord w n = true) (hr : isRef w = true) : (cellN w).toNat < n := by
  unfold isWord at h
  rw [hr] at h
  have := cellN_range w
  simp at h
  omega
theorem may_roots {h : List Cel} {ws : List Int} (hm : may h ws = true) : ∀ v ∈ ws, isRef v = true → (cellN v).toNat < h.length := by
  intro v hv hr
  unfold may at hm
  simp only [Bool.and_eq_true, List.all_eq_true] at hm
  exact isWord_ok (hm.2 v hv) hr
theorem may_cells {h : List Cel} {ws : List Int} (hm : may h ws = true) (c : Nat) (hc : c < h.length) : ∀ v ∈ wordsOf h c, isRef v = true → (cellN v).toNat < h.length := by
  intro v hv hr
  unfold may at hm
  simp only [Bool.and_eq_true] at hm
  have := (all_getD _ _).1 hm.1 c hc
  unfold okCell at this
  unfold wordsOf at hv
  split at hv
  · cases hv
  · next hk =>
    simp only [Bool.and_eq_true, Bool.or_eq_true, beq_iff_eq] at this
    have h2 := this.2.resolve_left hk
    simp at hv
    rcases hv with rfl | rfl
    · exact isWord_ok h2.1 hr
    · exact isWord_ok h2.2 hr
theorem inv_lt {n : Nat} {s : St} (h : Inv n s) (i : Nat) (hi : i < s.2.length) : s.2.getD i 0 < n := by
  have : s.2.getD i 0 ∈ s.2 := by rw [show s.2.getD i 0 = s.2[i] by simp [List.getD, hi]]; exact List.getElem_mem hi
  exact ((h.mem _).1 this).1
/-- What order answers: the row, of each cell whether it is met. -/
def OrdPost (h : List Cel) (ws : List Int) (w : World) (e : Ending) (w' : World) : Prop :=
  ∃ (v : Value) (qs : List Nat) (mb : Nat), e = .returned (.tuple #[v, .slice (some ⟨mb, 0, none⟩) h.length h.length]) ∧ Row w' 3 1 v qs (order h ws).2.length (nv (order h ws).2) ∧ w'.heap[mb]? = some (.cells (bv (order h ws).1).toArray 4 (0, 0)) ∧ Ch [] w w' ∧ w.heap.size ≤ mb ∧ mb ∉ qs ∧ ∀ q ∈ qs, w.heap.size ≤ q
end Go.Proofs.YtlhhcocdhkbdnaaDoor.Gr

set_option linter.unusedVariables false
set_option linter.unusedSimpArgs false
set_option maxRecDepth 100000
namespace Go.Proofs.YtlhhcocdhkbdnaaDoor.Gr
open Go.RowKit Go.Proofs.YtlhhcocdhkbdnaaDoor.Wd Go.Proofs.YtlhhcocdhkbdnaaDoor.Hp Go.Proofs.YtlhhcocdhkbdnaaDoor.Gp Go.Proofs.YtlhhcocdhkbdnaaDoor.Sm

def gErr (h : List Cel) (ws : List Int) : Int := if may h ws then 0 else 100
def reach (h : List Cel) (ws : List Int) : List Bool := if may h ws then (order h ws).1 else []
def met (h : List Cel) (ws : List Int) : List Nat := if may h ws then (order h ws).2 else []
/-- What a maker of a list and an error answers. -/
def Mk (e : TypeId) (xs : List Value) (n : Nat) (er : Int) (w : World) (en : Ending) (w' : World) : Prop :=
  ∃ (v : Value) (qs : List Nat), en = .returned (.tuple #[v, .int .i64 er]) ∧ Row w' e 1 v qs n xs ∧ Ch [] w w' ∧ ∀ q ∈ qs, w.heap.size ≤ q
theorem eachW_len (n : Nat) (l : List Int) (s : St) (h : s.1.length = n) : (eachW meet s l).1.length = n := by
  induction l generalizing s with
  | nil => exact h
  | cons x l ih =>
    show (eachW meet (if isRef x then meet s (cellN x).toNat else s) l).1.length = n
    apply ih
    split
    · unfold meet; split
      · exact h
      · simpa using h
    · exact h
theorem orderL_len (h : List Cel) (n : Nat) : ∀ (k i : Nat) (s : St), s.1.length = n → (orderL h k i s).1.length = n
  | 0, _, s, hs => hs
  | k + 1, i, s, hs => by
    rw [orderL]; split
    · exact orderL_len h n k (i + 1) _ (eachW_len n _ _ hs)
    · exact hs
theorem order_len (h : List Cel) (ws : List Int) : (order h ws).1.length = h.length := orderL_len h _ _ _ _ (eachW_len _ _ _ (by simp))
theorem Row.block {w : World} {b : Nat} {e : TypeId} {xs : List Value} {n : Nat} (h : w.heap[b]? = some (.cells xs.toArray e (0, 0))) (hn : xs.length = n) (hm : n ≤ 1000000) : Row w e 1 (.slice (some ⟨b, 0, none⟩) n n) [b] n xs :=
  ⟨by omega, _, n, rfl, Nat.le_refl _, by unfold maxLen; omega, (by intro h; cases h), .inr ⟨b, 0, _, by simp, rfl, h, by simp; omega, fun j hj => by simp⟩⟩
section
variable (w : World) (ao : Option Addr) (cap : Nat) (h : List Cel) (aw : Option Addr) (m cw : Nat) (ws : List Int)
end
end Go.Proofs.YtlhhcocdhkbdnaaDoor.Gr

set_option linter.unusedVariables false
set_option linter.unusedSimpArgs false
set_option maxRecDepth 100000
namespace Go.Proofs.YtlhhcocdhkbdnaaDoor.Gr
open Go.RowKit Go.Proofs.YtlhhcocdhkbdnaaDoor.Wd Go.Proofs.YtlhhcocdhkbdnaaDoor.Hp Go.Proofs.YtlhhcocdhkbdnaaDoor.Gp Go.Proofs.YtlhhcocdhkbdnaaDoor.Sm

theorem infoCell : (Tryd.prog.info? 58).map (fun i => (i.zero, i.size, i.bytes)) = some (some (.agg #[.int .u8 0, .int .u8 0, .int .u64 0, .int .u64 0]), 4, 24) := by kernel_rfl
theorem infoWord : (Tryd.prog.info? 24).map (fun i => (i.zero, i.size, i.bytes)) = some (some (.int .u64 0), 1, 8) := by kernel_rfl
theorem run_make_ints (w : World) (n : Nat) (h : n ≤ 1000000) : (Instr.makeSlice 50 (.int .i64 (n : Int)) (.int .i64 (n : Int))).run Tryd.prog w = .ok (.slice (some ⟨w.heap.size, 0, none⟩) n n) (w.alloc (.cells (nv (List.replicate n 0)).toArray 3)) := by
  obtain ⟨i, hi, he⟩ := Option.map_eq_some_iff.1 infoInt
  simp only [Prod.mk.injEq] at he
  obtain ⟨e1, e2, e3⟩ := he
  have := run_make (P := Tryd.prog) w 50 3 i _ Tryd.underlying50 hi e1 .i64 .i64 n n (by omega) (by omega) (by rw [e3]; omega) (by omega)
  rw [this, e2]
  have e4 : (Value.int .i64 0).cells = #[.int .i64 0] := rfl
  simp only [Int.toNat_natCast]
  rw [e4, Nat.mul_one, made_one, show nv (List.replicate n 0) = List.replicate n (.int .i64 0) by simp [nv]]

def placeK (n : Nat) (l : List Nat) : Nat → List Nat
  | 0 => List.replicate n 0
  | k + 1 => (placeK n l k).set (l.getD k 0) k
theorem placeK_len (n : Nat) (l : List Nat) : ∀ k, (placeK n l k).length = n
  | 0 => by simp [placeK]
  | k + 1 => by simp [placeK, placeK_len n l k]
theorem placeK_le (n : Nat) (l : List Nat) : ∀ k c, (placeK n l k).getD c 0 ≤ k
  | 0, c => by simp only [placeK, List.getD_eq_getElem?_getD, List.getElem?_replicate]; split <;> simp
  | k + 1, c => by
    have := placeK_le n l k c
    simp only [placeK, List.getD_eq_getElem?_getD, List.getElem?_set]
    simp only [List.getD_eq_getElem?_getD] at this
    split
    · split
      · simp
      · simp
    · omega
def place (h : List Cel) (ws : List Int) : List Nat := placeK h.length (order h ws).2 (order h ws).2.length
def moved (pl : List Nat) (x : Int) : Int := if isRef x then refW (pl.getD (cellN x).toNat 0 : Nat) else x
def formC (h : List Cel) (pl : List Nat) (c : Nat) : Cel := if (h.getD c z).k = 0 then ⟨0, 0, 0, 0⟩ else ⟨(h.getD c z).k, 0, moved pl (h.getD c z).a, moved pl (h.getD c z).b⟩
def formH (h : List Cel) (ws : List Int) : List Cel := if may h ws then (order h ws).2.map (formC h (place h ws)) else []
def formW (h : List Cel) (ws : List Int) : List Int := if may h ws then ws.map (moved (place h ws)) else []
theorem Row.rdF {w : World} {e : TypeId} {sz : Nat} {v : Value} {qs : List Nat} {n : Nat} {xs : List Value} (h : Row w e sz v qs n xs) : ∃ ao cap, v = .slice ao n cap ∧ n ≤ cap ∧ RdF w ao (n * sz) xs [] := by
  obtain ⟨ao, cap, h1, h2, h3, h4, h5⟩ := h.rd
  exact ⟨ao, cap, h1, h2, h4, h5.imp id fun ⟨b, off, a, c⟩ => ⟨b, off, a, by simp, c⟩⟩
theorem nv_set (l : List Nat) (c k : Nat) : (nv l).toArray.setIfInBounds c (.int .i64 k) = (nv (l.set c k)).toArray := by
  simp [nv, List.map_set]
def FormPost (h : List Cel) (ws : List Int) (w : World) (en : Ending) (w' : World) : Prop :=
  ∃ (vx : Value) (qx : List Nat) (vy : Value) (qy : List Nat), en = .returned (.tuple #[vx, vy, .int .i64 (gErr h ws)]) ∧ Row w' 58 4 vx qx (formH h ws).length (flat (formH h ws)) ∧ Row w' 24 1 vy qy (formW h ws).length (ints .u64 (formW h ws)) ∧ Ch [] w w' ∧ (∀ q ∈ qx, w.heap.size ≤ q) ∧ (∀ q ∈ qy, w.heap.size ≤ q) ∧ ∀ q ∈ qx, q ∉ qy
/-- The place list that is being written, in blocks of its own. -/
structure PL (bp pb n : Nat) (w : World) (pl : List Nat) : Prop where
  p : w.heap[bp]? = some (.cells #[.slice (some ⟨pb, 0, none⟩) n n] 50 (0, 0))
  q : w.heap[pb]? = some (.cells (nv pl).toArray 3 (0, 0))
theorem PL.ch {bp pb n : Nat} {w w' : World} {pl : List Nat} (h : PL bp pb n w pl) (hc : Ch [] w w') : PL bp pb n w' pl := ⟨hc.heap h.p (by simp), hc.heap h.q (by simp)⟩
theorem orderL_inv {h : List Cel} {ws : List Int} (hm : may h ws = true) : ∀ (k i : Nat) (s : St), Inv h.length s → Inv h.length (orderL h k i s)
  | 0, _, s, hs => hs
  | k + 1, i, s, hs => by
    rw [orderL]; split
    · next hi => exact orderL_inv hm k (i + 1) _ (each_all (fun s c h1 h2 => h1.meet c h2) _ _ hs (may_cells hm _ (inv_lt hs i hi)))
    · exact hs
theorem order_inv {h : List Cel} {ws : List Int} (hm : may h ws = true) : Inv h.length (order h ws) :=
  orderL_inv hm _ _ _ (each_all (fun s c h1 h2 => h1.meet c h2) _ _ (Inv.start _) (may_roots hm))
theorem take_snoc {α : Type} (l : List α) (j : Nat) (d : α) (h : j < l.length) : l.take (j + 1) = l.take j ++ [l.getD j d] := by
  rw [List.take_succ_eq_append_getElem h]; simp [List.getD, h]
theorem moved_u {pl : List Nat} {x : Int} (h : u64 x) : u64 (moved pl x) := by
  unfold moved; split
  · exact mkW_range _ _
  · exact h
def formL (h : List Cel) (pl : List Nat) (l : List Nat) (j : Nat) : List Value := flat ((l.take j).map (formC h pl))
theorem formL_snoc (h : List Cel) (pl : List Nat) (l : List Nat) (j : Nat) (hj : j < l.length) : formL h pl l (j + 1) = formL h pl l j ++ celV (formC h pl (l.getD j 0)) := by
  unfold formL
  rw [take_snoc l j 0 hj, List.map_append, flat_append]
  simp [flat]
def movL (pl : List Nat) (ws : List Int) (j : Nat) : List Value := ints .u64 ((ws.take j).map (moved pl))
theorem movL_snoc (pl : List Nat) (ws : List Int) (j : Nat) (hj : j < ws.length) : movL pl ws (j + 1) = movL pl ws j ++ [.int .u64 (moved pl (ws.getD j 0))] := by
  unfold movL
  rw [take_snoc ws j 0 hj, List.map_append]
  simp [ints]
section
variable (w : World) (ao : Option Addr) (cap : Nat) (h : List Cel) (aw : Option Addr) (m cw : Nat) (ws : List Int)
end
end Go.Proofs.YtlhhcocdhkbdnaaDoor.Gr

set_option linter.unusedVariables false
set_option linter.unusedSimpArgs false
namespace Go.Proofs.YtlhhcocdhkbdnaaDoor.Gp
open Go.RowKit Go.Proofs.YtlhhcocdhkbdnaaDoor.Wd Go.Proofs.YtlhhcocdhkbdnaaDoor.Hp Go.Proofs.YtlhhcocdhkbdnaaDoor.Gr

def stepW (s : St) (x : Int) : St := if isRef x then meet s (cellN x).toNat else s
theorem eachW_step (s : St) (l : List Int) : eachW meet s l = l.foldl stepW s := rfl
def rowW (h : List Cel) (ws : List Int) (s : St) : List Int := ws ++ s.2.flatMap (wordsOf h)
def refK (h : List Cel) (ws : List Int) : Nat → St
  | 0 => (List.replicate h.length false, [])
  | k + 1 => match (rowW h ws (refK h ws k))[k]? with | some x => stepW (refK h ws k) x | none => refK h ws k
theorem meet_pre (s : St) (c : Nat) : ∃ t, (meet s c).2 = s.2 ++ t := by
  unfold meet; split
  · exact ⟨[], by simp⟩
  · exact ⟨[c], rfl⟩
theorem stepW_pre (s : St) (x : Int) : ∃ t, (stepW s x).2 = s.2 ++ t := by
  unfold stepW; split
  · exact meet_pre s _
  · exact ⟨[], by simp⟩
theorem steps_pre : ∀ (l : List Int) (s : St), ∃ t, (l.foldl stepW s).2 = s.2 ++ t
  | [], s => ⟨[], by simp⟩
  | x :: l, s => by
    obtain ⟨t, ht⟩ := stepW_pre s x
    obtain ⟨t2, ht2⟩ := steps_pre l (stepW s x)
    exact ⟨t ++ t2, by rw [List.foldl_cons, ht2, ht, List.append_assoc]⟩
theorem rowW_pre (h : List Cel) (ws : List Int) (s : St) (x : Int) : ∃ t, rowW h ws (stepW s x) = rowW h ws s ++ t := by
  obtain ⟨t, ht⟩ := stepW_pre s x
  exact ⟨t.flatMap (wordsOf h), by simp [rowW, ht]⟩
theorem refK_run (h : List Cel) (ws : List Int) : ∀ (l : List Int) (k : Nat) (pre t : List Int), pre.length = k → rowW h ws (refK h ws k) = pre ++ l ++ t → refK h ws (k + l.length) = l.foldl stepW (refK h ws k)
  | [], k, pre, t, _, _ => rfl
  | x :: l, k, pre, t, hp, hr => by
    have h1 : refK h ws (k + 1) = stepW (refK h ws k) x := by
      show (match (rowW h ws (refK h ws k))[k]? with | some x => stepW (refK h ws k) x | none => refK h ws k) = _
      rw [hr]
      simp [← hp]
    obtain ⟨t', ht⟩ := rowW_pre h ws (refK h ws k) x
    have := refK_run h ws l (k + 1) (pre ++ [x]) (t ++ t') (by simp [hp]) (by rw [h1, ht, hr]; simp)
    rw [List.foldl_cons, ← h1, ← this]
    congr 1
    simp; omega
theorem refK_next {h : List Cel} {ws : List Int} {k : Nat} {x : Int} (hx : (rowW h ws (refK h ws k))[k]? = some x) : refK h ws (k + 1) = stepW (refK h ws k) x := by
  show (match (rowW h ws (refK h ws k))[k]? with | some x => stepW (refK h ws k) x | none => refK h ws k) = _
  rw [hx]
theorem Inv.step {n : Nat} {s : St} (h : Inv n s) (x : Int) (hx : isRef x = true → (cellN x).toNat < n) : Inv n (stepW s x) := by
  unfold stepW; split
  · next hr => exact h.meet _ (hx hr)
  · exact h
theorem rowW_mem {h : List Cel} {ws : List Int} (hm : may h ws = true) {s : St} (hi : Inv h.length s) {x : Int} (hx : x ∈ rowW h ws s) : isRef x = true → (cellN x).toNat < h.length := by
  unfold rowW at hx
  rw [List.mem_append, List.mem_flatMap] at hx
  rcases hx with hx | ⟨c, hc, hx⟩
  · exact may_roots hm x hx
  · exact may_cells hm c ((hi.mem c).1 hc).1 x hx
theorem refK_inv {h : List Cel} {ws : List Int} (hm : may h ws = true) : ∀ k, Inv h.length (refK h ws k)
  | 0 => Inv.start _
  | k + 1 => by
    have ih := refK_inv hm k
    rw [refK]
    split
    · next x hx => exact ih.step x (rowW_mem hm ih (List.mem_of_getElem? hx))
    · exact ih
theorem flatMap_le (h : List Cel) : ∀ l : List Nat, (l.flatMap (wordsOf h)).length ≤ 2 * l.length
  | [] => by simp
  | c :: l => by
    have := flatMap_le h l
    rw [List.flatMap_cons, List.length_append]
    have h2 : (wordsOf h c).length ≤ 2 := by unfold wordsOf; split <;> simp
    simp only [List.length_cons]; omega
theorem rowW_le (h : List Cel) (ws : List Int) {s : St} (hi : Inv h.length s) : (rowW h ws s).length ≤ ws.length + 2 * h.length := by
  have := flatMap_le h s.2
  have := hi.le
  unfold rowW
  rw [List.length_append]; omega
theorem refK_stable {h : List Cel} {ws : List Int} {k : Nat} (hk : (rowW h ws (refK h ws k)).length ≤ k) : ∀ d, refK h ws (k + d) = refK h ws k
  | 0 => rfl
  | d + 1 => by
    have ih := refK_stable hk d
    show (match (rowW h ws (refK h ws (k + d)))[k + d]? with | some x => stepW (refK h ws (k + d)) x | none => refK h ws (k + d)) = _
    rw [ih, List.getElem?_eq_none (by omega)]
theorem orderL_ref {h : List Cel} {ws : List Int} (hm : may h ws = true) : ∀ (fuel i k : Nat) (s : St), Inv h.length s → i ≤ s.2.length → i + fuel = h.length + 1 → refK h ws k = s → k = (ws ++ (s.2.take i).flatMap (wordsOf h)).length →
    ∃ k', refK h ws k' = orderL h fuel i s ∧ (rowW h ws (orderL h fuel i s)).length ≤ k'
  | 0, i, k, s, hi, h1, h2, _, _ => by have := hi.le; omega
  | fuel + 1, i, k, s, hi, h1, h2, h3, h4 => by
    rw [orderL]
    by_cases hlt : i < s.2.length
    · rw [if_pos hlt]
      have hc := inv_lt hi i hlt
      have hdrop : s.2 = s.2.take i ++ s.2.getD i 0 :: s.2.drop (i + 1) := by
        have e : s.2.getD i 0 = s.2[i] := by simp [List.getD, hlt]
        rw [e]; simp
      have hrow : rowW h ws (refK h ws k) = (ws ++ (s.2.take i).flatMap (wordsOf h)) ++ wordsOf h (s.2.getD i 0) ++ (s.2.drop (i + 1)).flatMap (wordsOf h) := by
        rw [h3]
        unfold rowW
        conv => lhs; rw [hdrop]
        simp
      have hrun := refK_run h ws (wordsOf h (s.2.getD i 0)) k _ _ h4.symm hrow
      rw [h3] at hrun
      obtain ⟨t, ht⟩ := steps_pre (wordsOf h (s.2.getD i 0)) s
      have hinv : Inv h.length (named h meet s (s.2.getD i 0)) := by
        have := refK_inv hm (k + (wordsOf h (s.2.getD i 0)).length)
        rw [hrun] at this
        exact this
      refine orderL_ref hm fuel (i + 1) (k + (wordsOf h (s.2.getD i 0)).length) _ hinv ?_ (by omega) hrun ?_
      · show i + 1 ≤ ((wordsOf h (s.2.getD i 0)).foldl stepW s).2.length
        rw [ht, List.length_append]; omega
      · show k + (wordsOf h (s.2.getD i 0)).length = (ws ++ (((wordsOf h (s.2.getD i 0)).foldl stepW s).2.take (i + 1)).flatMap (wordsOf h)).length
        rw [ht, List.take_append_of_le_length (by omega), h4, take_snoc _ _ 0 hlt]
        simp; omega
    · rw [if_neg hlt]
      have : i = s.2.length := by omega
      subst this
      exact ⟨k, h3, by rw [h4, List.take_length]; exact Nat.le_refl _⟩
/-- Where the row of words ends, just what order meets has been met. -/
theorem refK_end {h : List Cel} {ws : List Int} (hm : may h ws = true) {k : Nat} (hk : (rowW h ws (refK h ws k)).length ≤ k) : refK h ws k = order h ws := by
  have h0 : refK h ws ws.length = eachW meet (List.replicate h.length false, []) ws := by
    have := refK_run h ws ws 0 [] [] rfl (by simp [rowW, refK])
    rw [Nat.zero_add] at this
    exact this
  obtain ⟨k', h1, h2⟩ := orderL_ref hm (h.length + 1) 0 ws.length _ (h0 ▸ refK_inv hm _) (by omega) (by omega) h0 (by simp)
  have e1 : orderL h (h.length + 1) 0 (eachW meet (List.replicate h.length false, []) ws) = order h ws := rfl
  rw [e1] at h1 h2
  rw [← h1] at h2
  have s1 := refK_stable hk k'
  have s2 := refK_stable h2 k
  rw [← s1, Nat.add_comm, s2, h1]
end Go.Proofs.YtlhhcocdhkbdnaaDoor.Gp

set_option linter.unusedVariables false
set_option linter.unusedSimpArgs false
namespace Go.Proofs.YtlhhcocdhkbdnaaDoor.Gp
open Go.RowKit Go.Proofs.YtlhhcocdhkbdnaaDoor.Wd Go.Proofs.YtlhhcocdhkbdnaaDoor.Hp Go.Proofs.YtlhhcocdhkbdnaaDoor.Gr
/-- What is reached: named by a root, or by a cell that is reached and not free. -/
inductive Rea (h : List Cel) (ws : List Int) : Nat → Prop
  | src (x : Int) : x ∈ ws → isRef x = true → Rea h ws (cellN x).toNat
  | step (d : Nat) (x : Int) : Rea h ws d → x ∈ wordsOf h d → isRef x = true → Rea h ws (cellN x).toNat
theorem refK_snd (h : List Cel) (ws : List Int) : ∀ k, ∀ c ∈ (refK h ws k).2, Rea h ws c
  | 0 => fun c hc => by cases hc
  | k + 1 => by
    have ih := refK_snd h ws k
    rw [refK]
    split
    · next x hx =>
      intro c hc
      unfold stepW at hc
      split at hc
      · next hr =>
        unfold meet at hc
        split at hc
        · exact ih c hc
        · rw [List.mem_append, List.mem_singleton] at hc
          rcases hc with hc | rfl
          · exact ih c hc
          · have hm := List.mem_of_getElem? hx
            unfold rowW at hm
            rw [List.mem_append, List.mem_flatMap] at hm
            rcases hm with hm | ⟨d, hd, hm⟩
            · exact .src x hm hr
            · exact .step d x (ih d hd) hm hr
      · exact ih c hc
    · exact ih
theorem stepW_mem {n : Nat} {s : St} (hi : Inv n s) (x : Int) (hr : isRef x = true) (hx : (cellN x).toNat < n) : (cellN x).toNat ∈ (stepW s x).2 := by
  unfold stepW meet
  rw [if_pos hr]
  split
  · next h => exact (hi.mem _).2 ⟨hx, h⟩
  · simp
theorem refK_cpl {h : List Cel} {ws : List Int} (hm : may h ws = true) : ∀ k, ∀ (i : Nat) (x : Int), i < k → (rowW h ws (refK h ws k))[i]? = some x → isRef x = true → (cellN x).toNat ∈ (refK h ws k).2
  | 0 => fun i x hi => absurd hi (by omega)
  | k + 1 => by
    have ih := refK_cpl hm k
    have hinv := refK_inv hm k
    rw [refK]
    split
    · next x hx =>
      have hk : k < (rowW h ws (refK h ws k)).length := by
        rcases Nat.lt_or_ge k (rowW h ws (refK h ws k)).length with h1 | h1
        · exact h1
        · rw [List.getElem?_eq_none h1] at hx; cases hx
      intro i y hi hy hr
      obtain ⟨t, ht⟩ := rowW_pre h ws (refK h ws k) x
      rw [ht, List.getElem?_append_left (by omega)] at hy
      by_cases e : i = k
      · subst e
        rw [hx] at hy
        obtain rfl := Option.some.inj hy
        exact stepW_mem hinv _ hr (rowW_mem hm hinv (List.mem_of_getElem? hx) hr)
      · obtain ⟨t2, ht2⟩ := stepW_pre (refK h ws k) x
        rw [ht2]
        exact List.mem_append_left _ (ih i y (by omega) hy hr)
    · next hn =>
      intro i y hi hy hr
      by_cases e : i = k
      · subst e; rw [hn] at hy; cases hy
      · exact ih i y (by omega) hy hr
theorem ord_inv {h : List Cel} {ws : List Int} (hm : may h ws = true) : Inv h.length (order h ws) := by
  have hk := rowW_le h ws (refK_inv hm (ws.length + 2 * h.length))
  rw [← refK_end hm hk]
  exact refK_inv hm _
/-- JUST WHAT IS REACHED. -/
theorem order_iff {h : List Cel} {ws : List Int} (hm : may h ws = true) (c : Nat) : c ∈ (order h ws).2 ↔ Rea h ws c := by
  have hk := rowW_le h ws (refK_inv hm (ws.length + 2 * h.length))
  have he := refK_end hm hk
  constructor
  · intro hc
    rw [← he] at hc
    exact refK_snd h ws _ c hc
  · intro hr
    have key : ∀ x, x ∈ rowW h ws (order h ws) → isRef x = true → (cellN x).toNat ∈ (order h ws).2 := by
      intro x hx hr
      obtain ⟨i, hi, hxi⟩ := List.getElem_of_mem hx
      rw [← he] at hi hx
      have := refK_cpl hm (ws.length + 2 * h.length) i x (by omega) (by rw [List.getElem?_eq_getElem hi]; congr 1; rw [← hxi]; congr 1; rw [he]) hr
      rwa [he] at this
    induction hr with
    | src x hx h1 => exact key x (by unfold rowW; exact List.mem_append_left _ hx) h1
    | step d x hd hx h1 ih => exact key x (by unfold rowW; exact List.mem_append_right _ (List.mem_flatMap.2 ⟨d, ih, hx⟩)) h1
theorem order_at {h : List Cel} {ws : List Int} (hm : may h ws = true) (c : Nat) (hc : c < h.length) : (order h ws).1.getD c true = true ↔ Rea h ws c := by
  rw [← order_iff hm c, (ord_inv hm).mem c]
  exact ⟨fun h => ⟨hc, h⟩, fun h => h.2⟩
theorem order_len {h : List Cel} {ws : List Int} (hm : may h ws = true) : (order h ws).1.length = h.length := (ord_inv hm).len
theorem Rea.lt {h : List Cel} {ws : List Int} (hm : may h ws = true) {c : Nat} (hr : Rea h ws c) : c < h.length := (((ord_inv hm).mem c).1 ((order_iff hm c).2 hr)).1
end Go.Proofs.YtlhhcocdhkbdnaaDoor.Gp
