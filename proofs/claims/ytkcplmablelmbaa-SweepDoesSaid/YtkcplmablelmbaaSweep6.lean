/-
  PLAIN LAWS and THE WALK of SweepBirths.
-/
import Derived.Test.YtkcplmablelmbaaSweep5
set_option linter.unusedVariables false
set_option linter.unusedSimpArgs false
set_option maxRecDepth 100000
namespace Go.Proofs.Ytkcplmablelmbaa.Sw
open Go.RowKit Go.Proofs.Ytkcplmablelmbaa.Hp Go.Proofs.Ytkcplmablelmbaa.Ato Go.Proofs.Ytkcplmablelmbaa.Cp Go.Proofs.Ytkcplmablelmbaa.Cl

theorem getD_set {α : Type} (l : List α) (c j : Nat) (x z : α) (hc : c < l.length) : (l.set c x).getD j z = if c = j then x else l.getD j z := by
  simp only [List.getD_eq_getElem?_getD]
  by_cases h : c = j
  · subst h; rw [if_pos rfl, List.getElem?_set_self hc]; rfl
  · rw [if_neg h, List.getElem?_set_ne h]
/-- ONE STEP OF THE SWEEP where it comes to a cell that is not grey. -/
theorem step_vals (l : List Cel) (k f : Nat) (h : k < l.length) (ok : OkC (l.getD k free)) (ng : (l.getD k free).c ≠ 1) :
    cellOf l k = k ∧ backOf l k = white (l.getD k free) ∧ errOf l k = 0 ∧ next l k = l.set k (sweep1 (l.getD k free)) ∧ atOf l k = k + 1 ∧ freedOf l k f = f + if white (l.getD k free) then 1 else 0 := by
  have hself := set_same l k (l.getD k free) h rfl
  have hw : way l k = if (l.getD k free).k = 0 then 1 else if (l.getD k free).c = 1 then 0 else if (l.getD k free).c = 0 then 2 else 3 := by
    unfold way; rw [if_pos h]
  unfold cellOf backOf errOf next atOf freedOf
  generalize l.getD k free = x at *
  by_cases hk : x.k = 0
  · have hx : x = free := by
      rcases ok with h | h
      · exact h
      · omega
    subst hx
    rw [if_pos hk] at hw
    rw [hw]
    refine ⟨rfl, rfl, rfl, ?_, rfl, rfl⟩
    exact hself.symm
  · rw [if_neg hk, if_neg ng] at hw
    by_cases hc : x.c = 0
    · rw [if_pos hc] at hw
      have hwh : white x = true := by simp [white, hc]; exact hk
      rw [hw, hwh]
      refine ⟨rfl, rfl, rfl, ?_, rfl, rfl⟩
      simp [sweep1, hc]
    · rw [if_neg hc] at hw
      have hwh : white x = false := by simp [white, hc]
      rw [hw, hwh]
      refine ⟨rfl, rfl, rfl, ?_, rfl, rfl⟩
      simp [sweep1, hc]

structure Inv (n i : Nat) (l : List Cel) (fr : List Bool) : Prop where
  ll : l.length = n
  lf : fr.length = n
  ahead : ∀ j, i ≤ j → j < n → (fr.getD j false = true → l.getD j free = ⟨2, 2, 7, 7⟩) ∧ (l.getD j free).c ≠ 1
  behind : ∀ j, j < i → j < n → (fr.getD j false = true → l.getD j free = ⟨2, 0, 7, 7⟩) ∧ (l.getD j free).c = 0
theorem Inv.make {n i : Nat} {l : List Cel} {fr : List Bool} (h : Inv n i l fr) (c : Nat) (hc : c < n) (t : Int) (ht : t = if i ≤ c then 2 else 0) : Inv n i (l.set c ⟨2, t, 7, 7⟩) (fr.set c true) := by
  subst ht
  refine ⟨by rw [List.length_set]; exact h.ll, by rw [List.length_set]; exact h.lf, fun j hj hn => ?_, fun j hj hn => ?_⟩
  · rw [getD_set _ _ _ _ _ (by rw [h.lf]; exact hc), getD_set _ _ _ _ _ (by rw [h.ll]; exact hc)]
    by_cases e : c = j
    · subst e; simp [hj]
    · simp only [e, if_false]; exact h.ahead j hj hn
  · rw [getD_set _ _ _ _ _ (by rw [h.lf]; exact hc), getD_set _ _ _ _ _ (by rw [h.ll]; exact hc)]
    by_cases e : c = j
    · subst e; simp; omega
    · simp only [e, if_false]; exact h.behind j hj hn
theorem Inv.step {n i : Nat} {l : List Cel} {fr : List Bool} (h : Inv n i l fr) (hi : i < n) : Inv n (i + 1) (l.set i (sweep1 (l.getD i free))) fr := by
  have hil : i < l.length := by rw [h.ll]; exact hi
  refine ⟨by rw [List.length_set]; exact h.ll, h.lf, fun j hj hn => ?_, fun j hj hn => ?_⟩
  · rw [getD_set _ _ _ _ _ hil, if_neg (by omega)]
    exact h.ahead j (by omega) hn
  · rw [getD_set _ _ _ _ _ hil]
    by_cases e : i = j
    · subst e
      obtain ⟨h1, h2⟩ := h.ahead i (Nat.le_refl _) hn
      rw [if_pos rfl]
      refine ⟨fun hf => by rw [h1 hf]; rfl, ?_⟩
      unfold sweep1
      split <;> rfl
    · rw [if_neg e]; exact h.behind j (by omega) hn
theorem Inv.start {l : List Cel} (h : NoGrey l) : Inv l.length 0 l (List.replicate l.length false) := by
  refine ⟨rfl, by simp, fun j _ hn => ⟨fun hf => ?_, ?_⟩, fun j hj => absurd hj (by omega)⟩
  · simp [List.getD, hn] at hf
  · rw [show l.getD j free = l[j] by simp [List.getD, hn]]; exact h _ (List.getElem_mem hn)
theorem make_vals (l : List Cel) (c : Nat) (t : Int) (hc : c < l.length) (ht : 0 ≤ t ∧ t ≤ 2) :
    (makeE l c 2 t = 31 ∧ make l c 2 t 7 7 = l) ∨ (makeE l c 2 t = 0 ∧ make l c 2 t 7 7 = l.set c ⟨2, t, 7, 7⟩) := by
  have hi : isC l c = true := by simp [isC]; omega
  have hn : ¬ ((2 : Int) < 1 ∨ (3 : Int) < 2 ∨ 2 < t) := by omega
  cases hu : used l c
  · right; simp only [make, makeE, hi, hu, if_true, hn, if_false, Bool.false_eq_true, Int.toNat_natCast, and_self]
  · left; simp only [make, makeE, hi, hu, if_true, hn, if_false]; simp

theorem pick_any (w : World) (c : Int) (n : Nat) (hc : -9223372036854775808 ≤ c ∧ c ≤ 9223372036854775807) (hn : 1 ≤ n ∧ n ≤ 4096) :
    Calls Try.prog 15 #[.int .i64 c, .int .i64 n] w fun e w' => (∃ m : Nat, m < n ∧ e = .returned (.int .i64 m)) ∧ w = w' := by
  have hn0 : ¬ (n : Int) = 0 := by omega
  by_cases h : c < 0
  · have hm : ∃ m : Nat, m < n ∧ (-(c + 1)).tmod n = m := by
      have h1 : 0 ≤ -(c + 1) := by omega
      refine ⟨((-(c + 1)).tmod n).toNat, ?_, ?_⟩
      · have := Int.tmod_lt_of_pos (-(c + 1)) (b := (n : Int)) (by omega)
        have := Int.tmod_nonneg (n : Int) h1
        omega
      · have := Int.tmod_nonneg (n : Int) h1
        omega
    obtain ⟨m, hm1, hm2⟩ := hm
    go_enter Try.func15, Try.ntmps15
    go_wp2_with fail
    go_ret
    exact ⟨⟨m, hm1, rfl⟩, rfl⟩
  · have hm : ∃ m : Nat, m < n ∧ c.tmod n = m := by
      have h1 : 0 ≤ c := by omega
      refine ⟨(c.tmod n).toNat, ?_, ?_⟩
      · have := Int.tmod_lt_of_pos c (b := (n : Int)) (by omega)
        have := Int.tmod_nonneg (n : Int) h1
        omega
      · have := Int.tmod_nonneg (n : Int) h1
        omega
    obtain ⟨m, hm1, hm2⟩ := hm
    go_enter Try.func15, Try.ntmps15
    go_wp2_with fail
    go_ret
    exact ⟨⟨m, hm1, rfl⟩, rfl⟩

def bools (l : List Bool) : List Value := l.map .bool
theorem bools_get (l : List Bool) (k : Nat) (h : k < l.length) : (bools l)[k]? = some (.bool (l.getD k false)) := by simp [bools, List.getD, h]
theorem bools_set (l : List Bool) (k : Nat) (b : Bool) : (bools l).set k (.bool b) = bools (l.set k b) := by
  unfold bools; rw [List.map_set]
theorem infoBool : (Try.prog.info? 4).map (fun i => (i.zero, i.size, i.bytes)) = some (some (.bool false), 1, 1) := by kernel_rfl
theorem run_make_bools (w : World) (n : Nat) (h : n ≤ 4096) : (Instr.makeSlice 46 (.int .i64 (n : Int)) (.int .i64 (n : Int))).run Try.prog w = .ok (.slice (some ⟨w.heap.size, 0, none⟩) n n) (w.alloc (.cells (bools (List.replicate n false)).toArray 4)) := by
  obtain ⟨i, hi, he⟩ := Option.map_eq_some_iff.1 infoBool
  simp only [Prod.mk.injEq] at he
  obtain ⟨e1, e2, e3⟩ := he
  have := run_make (P := Try.prog) w 46 4 i _ Try.underlying46 hi e1 .i64 .i64 n n (by omega) (by omega) (by rw [e3]; omega) (by omega)
  rw [this, e2]
  have e4 : (Value.bool false).cells = #[.bool false] := rfl
  simp only [Int.toNat_natCast]
  rw [e4]
  have : madeCells #[.bool false] (n * 1) = (bools (List.replicate n false)).toArray := by
    apply Array.ext
    · simp [madeCells, bools]
    · intro i h1 h2
      simp [madeCells, bools, Nat.mod_one]
  rw [this]

/-- The law's own row of truths takes another one. -/
theorem J.store {w0 w : World} {v p s : Nat} {F : List Nat} {l : List Cel} {a f fb : Nat} {fr : List Bool} (h : J w0 w v p s F l a f [(fb, .cells (bools fr).toArray 4 (0, 0))]) (c : Nat) (hc : c < fr.length) (hb : w0.heap.size ≤ fb) :
    J w0 (w.setCell ⟨fb, c, none⟩ (.bool true)) v p s F l a f [(fb, .cells (bools (fr.set c true)).toArray 4 (0, 0))] := by
  obtain ⟨g1, g2, g3⟩ := h.ob _ (List.mem_singleton.2 rfl)
  simp only at g1 g2 g3
  have hch : Ch [fb] w (w.setCell ⟨fb, c, none⟩ (.bool true)) := (Ch.refl _ _).setCell _ _ (.inl (by simp))
  refine ⟨⟨h.k.is.ch hch (fun b hb e => by simp at e; exact g2 (e ▸ hb)), hch.heap h.k.at' (by simp; exact fun e => g3 e.symm), h.k.nv, h.k.ch.trans hch (by simp; exact hb), h.k.fr, h.k.vf⟩, fun x hx => ?_⟩
  simp only [List.mem_singleton] at hx
  subst hx
  refine ⟨?_, g2, g3⟩
  have := heap_set (i := c) g1 (.bool true)
  rw [this, List.setIfInBounds_toArray, bools_set]
end Go.Proofs.Ytkcplmablelmbaa.Sw
