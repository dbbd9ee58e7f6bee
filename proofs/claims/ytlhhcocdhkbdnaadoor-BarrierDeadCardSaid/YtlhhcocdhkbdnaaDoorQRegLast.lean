/-
  A REGION'S LAST OPERATION SET APART: where operation z waits for all others, the others go in whatever order (with S behind each), then z.
-/
import Derived.Test.YtlhhcocdhkbdnaaDoorProg
import Derived.Handy
import Derived.StillTail
import Derived.Deep.RegionHeld3
set_option linter.unusedVariables false
set_option linter.unusedSimpArgs false
namespace Go.Proofs.YtlhhcocdhkbdnaaDoor.Rl
open Go
section
variable {P : Program} {ops : Array Oper} {Q : Exit → Act → World → Prop} {md : Region.Mode} {S : World → Prop}
/-- As Q, but behind the others operation z is still to come. -/
def lastQ (P : Program) (ops : Array Oper) (z : Nat) (Q : Exit → Act → World → Prop) : Exit → Act → World → Prop
  | .normal, a, w => wpOp P ops Q z (Q .normal) a w
  | e, a, w => Q e a w
theorem wpOp_last {z i : Nat} {K : Act → World → Prop} {a : Act} {w : World} (h : wpOp P ops (lastQ P ops z Q) i K a w) : wpOp P ops Q i K a w := by
  unfold wpOp at *
  split
  · simpa [*] using h
  · rename_i o ho
    simp only [ho] at h
    split
    · rename_i hw
      simp only [hw, if_true] at h
      refine h.imp (fun h => ?_) (fun h => h)
      unfold Oper.wp at *
      generalize (execOp a.eval o).run P w = r at *
      cases r with
      | ok n w' =>
        cases n <;> simp only [Oper.upon] at h ⊢ <;> first
          | exact h
          | exact Calls.mono h (fun e w'' he => by cases e <;> exact he)
      | halt x w' => cases x <;> simp only [Oper.upon] at h ⊢ <;> exact h
    · rename_i hw
      simp only [hw] at h
      exact h
theorem some_ready {listed : Array Bool} (hs : listed.size = ops.size) (hno : ∀ j o, ops[j]? = some o → ∀ e ∈ o.after, Region.binds md e = true → e.on < j) :
    ∀ m, m < ops.size → listed.getD m true = false → ∃ i, i ∈ Region.ready md ops listed := by
  intro m
  induction m using Nat.strongRecOn with
  | _ m ih =>
    intro hm hl
    obtain ⟨o, ho⟩ : ∃ o, ops[m]? = some o := ⟨_, Array.getElem?_eq_getElem hm⟩
    by_cases h : ∀ e ∈ o.after, Region.binds md e = true → listed.getD e.on false = true
    · exact ⟨m, mem_ready.2 ⟨hl, o, ho, h⟩⟩
    · simp only [Classical.not_forall] at h
      obtain ⟨e, he, hb, hn⟩ := h
      have hlt := hno m o ho e he hb
      have hs' : e.on < listed.size := by omega
      refine ih e.on hlt (by omega) (getD_in hs' ?_)
      cases hv : listed.getD e.on false with
      | false => rfl
      | true => exact absurd hv hn
theorem any_last {z : Nat} (hz1 : z + 1 = ops.size) (hz : z < ops.size) (hsk : Region.sinkB md ops z = true) (hc : Region.chainB md ops z = true)
    (hno : ∀ j o, ops[j]? = some o → ∀ e ∈ o.after, Region.binds md e = true → e.on < j) :
    ∀ (f : Nat) (listed : Array Bool) (a : Act) (w : World), HeadInv md ops z listed →
      wpAny P md ops (lastQ P ops z Q) f (listed.setIfInBounds z true) a w → wpAny P md ops Q (f + 1) listed a w := by
  intro f
  induction f with
  | zero =>
    intro listed a w inv h
    have hs := inv.size
    have hl := inv.tail z (Nat.le_refl _) hz
    refine ⟨fun h0 => ?_, fun i hi => ?_⟩
    · obtain ⟨i, hi⟩ := some_ready (md := md) hs hno z hz hl
      rw [h0] at hi; cases hi
    · by_cases hiz : i = z
      · subst hiz
        exact wpOp_mono (fun a' w' hq => by
          refine ⟨?_, hq⟩
          exact h.1) h.2
      · obtain ⟨h1, o, ho, hall⟩ := mem_ready.1 hi
        have : i ∈ Region.ready md ops (listed.setIfInBounds z true) := mem_ready.2 ⟨by rw [getD_set_ne true (Ne.symm hiz)]; exact h1, o, ho, fun e he hb => getD_set_true (hall e he hb)⟩
        rw [h.1] at this; cases this
  | succ f ih =>
    intro listed a w inv h
    have hs := inv.size
    have hl := inv.tail z (Nat.le_refl _) hz
    refine ⟨fun h0 => ?_, fun i hi => ?_⟩
    · obtain ⟨i, hi⟩ := some_ready (md := md) hs hno z hz hl
      rw [h0] at hi; cases hi
    · by_cases hiz : i = z
      · subst hiz
        have hr : Region.ready md ops (listed.setIfInBounds i true) = [] := by
          refine List.eq_nil_iff_forall_not_mem.2 (fun k hk => ?_)
          obtain ⟨k1, ok, hok, _⟩ := mem_ready.1 hk
          have hks : k < ops.size := (Array.getElem?_eq_some_iff.1 hok).1
          have hki : k ≠ i := by
            intro e
            subst e
            simp [hs, hks] at k1
          rw [getD_set_ne true (Ne.symm hki)] at k1
          exact tail_waits hsk hc hz inv _ k rfl (by omega) k1 i (Nat.le_refl _) hi
        exact wpOp_mono (fun a' w' hq => wpAny_done hr hq (f + 1)) (h.1 hr)
      · obtain ⟨h1, o, ho, hall⟩ := mem_ready.1 hi
        have hi' : i ∈ Region.ready md ops (listed.setIfInBounds z true) := mem_ready.2 ⟨by rw [getD_set_ne true (Ne.symm hiz)]; exact h1, o, ho, fun e he hb => getD_set_true (hall e he hb)⟩
        have h2 := h.2 i hi'
        refine wpOp_mono (fun a' w' h3 => ih (listed.setIfInBounds i true) a' w' (inv.set hi (by have := (Array.getElem?_eq_some_iff.1 ho).1; omega)) ?_) (wpOp_last h2)
        rw [Array.setIfInBounds_comm _ _ hiz]
        exact h3
/-- The conditions, reckoned. -/
def lastB (md : Region.Mode) (ops : Array Oper) (z : Nat) : Bool :=
  decide (z + 1 = ops.size) && Region.sinkB md ops z && Region.chainB md ops z &&
    (List.range ops.size).all (fun j => ((ops[j]?).map (fun o => o.after.all fun e => !Region.binds md e || decide (e.on < j))).getD true)
/-- The beginning. -/
theorem wp_region_last {id : Nat} {a : Act} {w : World} (z n : Nat) (hm : P.follows .mixedOrders = true) (hB : lastB .any ops z = true) (hn : n + 1 = ops.size) (hS : S w.drew)
    (h : S w.drew → wpAnyH P .any ops (lastQ P ops z Q) S n ((Array.replicate ops.size false).setIfInBounds z true) a w.drew) : (Code.region id ops true).wp P Q a w := by
  unfold lastB at hB
  simp only [Bool.and_eq_true, decide_eq_true_eq, List.all_eq_true, List.mem_range, Bool.or_eq_true] at hB
  obtain ⟨⟨⟨hz1, hk⟩, hc⟩, hno⟩ := hB
  have hz : z < ops.size := by omega
  refine wp_region_any hm ?_
  have inv0 : HeadInv .any ops z (Array.replicate ops.size false) :=
    ⟨by simp, fun j oj _ hl => (by rw [getD_replicate_false] at hl; cases hl), fun t _ ht => getD_in (by simpa using ht) (getD_replicate_false _ _)⟩
  have := any_last (P := P) (Q := Q) (md := .any) hz1 hz hk hc (fun j o ho e he hb => by
    have hj : j < ops.size := (Array.getElem?_eq_some_iff.1 ho).1
    have h1 := hno j hj
    rw [ho] at h1
    simp only [Option.map_some, Option.getD_some, Array.all_eq_true'] at h1
    have h2 := h1 e he
    rw [hb] at h2
    simpa using h2) n (Array.replicate ops.size false) a w.drew inv0 (wpAny_of_held _ _ _ _ (h hS))
  rw [hn] at this
  exact this
theorem last_list {z : Nat} {o : Oper} {a : Act} {w : World} (ho : ops[z]? = some o) (h : wpList P ops Q [o] a w) : lastQ P ops z Q .normal a w := by
  change wpOp P ops Q z (Q .normal) a w
  unfold wpOp
  simp only [ho]
  exact h
end
/-! An operation out of a list that is written out. -/
theorem at_0 {o : Oper} {l : List Oper} : (o :: l)[0]? = some o := rfl
theorem at_s {o x : Oper} {l : List Oper} {i : Nat} (h : l[i]? = some x) : (o :: l)[i + 1]? = some x := by simpa using h
theorem arr_at {x : Oper} {l : List Oper} {i : Nat} (h : l[i]? = some x) : (l.toArray)[i]? = some x := by simpa using h
end Go.Proofs.YtlhhcocdhkbdnaaDoor.Rl
