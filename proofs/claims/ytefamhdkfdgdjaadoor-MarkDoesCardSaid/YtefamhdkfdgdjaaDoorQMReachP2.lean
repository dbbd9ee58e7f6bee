/-
  PLAIN LAWS (no program): what a marker finds is what graph reaches.
-/
import Derived.Test.YtefamhdkfdgdjaaDoorQMReachP
import Derived.Test.YtefamhdkfdgdjaaDoorQApart
import Derived.Test.YtefamhdkfdgdjaaDoorQPlainP
import Derived.Test.YtefamhdkfdgdjaaDoorQJReachP
set_option linter.unusedVariables false
set_option linter.unusedSimpArgs false
namespace Go.Proofs.YtefamhdkfdgdjaaDoor.Mr
open Go.RowKit Go.Proofs.YtefamhdkfdgdjaaDoor.Wd Go.Proofs.YtefamhdkfdgdjaaDoor.Cp Go.Proofs.YtefamhdkfdgdjaaDoor.Cl Go.Proofs.YtefamhdkfdgdjaaDoor.Mk Go.Proofs.YtefamhdkfdgdjaaDoor.L15
def conv (x : Cp.Cel) : Gp.Cel := ⟨x.k, x.c, x.a, x.b⟩
theorem conv_flat (l : List Cp.Cel) : Gp.flat (l.map conv) = Cl.flat l := by
  unfold Gp.flat Cl.flat
  rw [List.flatMap_map]; rfl
theorem conv_at (l : List Cp.Cel) (c : Nat) : (l.map conv).getD c Gp.z = conv (l.getD c free) := by
  by_cases h : c < l.length
  · simp [List.getD_eq_getElem?_getD, h]
  · rw [List.getD_eq_getElem?_getD, List.getD_eq_getElem?_getD, List.getElem?_eq_none (by simp; omega), List.getElem?_eq_none (by omega)]; rfl
def okW (v : Int) : Prop := ofOk v = true ∧ (isRef v = true → cellN v < 16)
structure PlainOk (p : List Cp.Cel) : Prop where
  len : p.length = 16
  cel : ∀ c, c < 16 → (p.getD c free).k ≤ 3 ∧ (p.getD c free).c = 0 ∧ ((p.getD c free).k ≠ 0 → okW (p.getD c free).a ∧ okW (p.getD c free).b)
/-- The roots that are words of this heap. -/
def rootOk (p : List Cp.Cel) (v : Int) : Bool := isRef v && (decide (cellN v < 16) && ((p.getD (cellN v).toNat free).k != 0))
def rootsOf (p : List Cp.Cel) (all : List Int) : List Int := all.filter (rootOk p)
theorem used16 {p : List Cp.Cel} (hp : PlainOk p) {c : Nat} (hc : c < 16) : used p c = ((p.getD c free).k != 0) := by
  unfold used isC
  rw [hp.len, show (decide ((0 : Int) ≤ (c : Int)) && decide ((c : Int) < ((16 : Nat) : Int))) = true by simp; omega, Bool.true_and, get_nat]
theorem rootOk_iff {p : List Cp.Cel} (hp : PlainOk p) (v : Int) : rootOk p v = true ↔ isRef v = true ∧ used p (cellN v) = true := by
  unfold rootOk
  rw [Bool.and_eq_true, Bool.and_eq_true, decide_eq_true_eq]
  have hr := cellN_range v
  constructor
  · rintro ⟨h1, h2, h3⟩
    refine ⟨h1, ?_⟩
    rw [show cellN v = ((cellN v).toNat : Int) by omega, used16 hp (by omega)]
    exact h3
  · rintro ⟨h1, h2⟩
    obtain ⟨n, e, hn, hk⟩ := Mr.used_nat h2
    rw [hp.len] at hn
    refine ⟨h1, by omega, ?_⟩
    rw [e, Int.toNat_natCast]; exact bne_iff_ne.2 hk
theorem wordsOf_conv {p : List Cp.Cel} {d : Nat} (hk : (p.getD d free).k ≠ 0) : Gp.wordsOf (p.map conv) d = wds p d := by
  unfold Gp.wordsOf wds
  rw [conv_at, get_nat]
  rw [if_neg (show ¬ (conv (p.getD d free)).k = 0 from hk)]
  rfl
theorem may_plain {p : List Cp.Cel} (hp : PlainOk p) (all : List Int) (hu : ∀ v ∈ all, True) : Gp.may (p.map conv) (rootsOf p all) = true := by
  unfold Gp.may
  rw [Bool.and_eq_true, List.all_eq_true, List.all_eq_true]
  have hl : (p.map conv).length = 16 := by rw [List.length_map, hp.len]
  rw [hl]
  constructor
  · intro x hx
    obtain ⟨y, hy, rfl⟩ := List.mem_map.1 hx
    obtain ⟨c, hc, rfl⟩ := List.getElem_of_mem hy
    obtain ⟨h1, h2, h3⟩ := hp.cel c (by rw [← hp.len]; exact hc)
    rw [show p.getD c free = p[c] by simp [List.getD_eq_getElem?_getD, hc]] at h1 h2 h3
    generalize p[c] = y at *
    obtain ⟨k, cc, a, b⟩ := y
    simp only at h1 h2 h3
    unfold Gp.okCell conv
    simp only
    have hw : ∀ v, okW v → Gp.isWord v 16 = true := fun v ⟨g1, g2⟩ => by
      unfold Gp.isWord
      rw [g1]
      cases hr : isRef v
      · rfl
      · have := g2 hr; simp; omega
    by_cases hk : k = 0
    · subst hk; subst h2; rfl
    · obtain ⟨g1, g2⟩ := h3 hk
      rw [hw a g1, hw b g2, h2]
      simp; omega
  · intro v hv
    unfold rootsOf at hv
    rw [List.mem_filter] at hv
    have h1 := hv.2
    unfold rootOk at h1
    rw [Bool.and_eq_true, Bool.and_eq_true, decide_eq_true_eq] at h1
    unfold Gp.isWord
    have ho : ofOk v = true := by
      cases o : ofOk v
      · have : isRef v = false := by unfold isRef ofT; rw [o]; rfl
        rw [this] at h1; exact absurd h1.1 (by simp)
      · rfl
    rw [ho, h1.1]
    simp; omega
theorem rea_rch {p : List Cp.Cel} (hp : PlainOk p) {all : List Int} : ∀ {c : Nat}, Gp.Rea (p.map conv) (rootsOf p all) c → (p.getD c free).k ≠ 0 → c < 16 → Rch p all c
  | _, .src x h1 h2, hk, hc => by
    unfold rootsOf at h1
    rw [List.mem_filter] at h1
    obtain ⟨g1, g2⟩ := (rootOk_iff hp x).1 h1.2
    have hr := cellN_range x
    have := Rch.src (p := p) (ws := all) x h1.1 g1 g2
    rwa [show cellN x = ((cellN x).toNat : Int) by omega] at this
  | _, .step d x h1 h2 h3, hk, hc => by
    have hr := cellN_range x
    have hdk : (p.getD d free).k ≠ 0 := fun e => by
      unfold Gp.wordsOf at h2
      rw [conv_at, if_pos (show (conv (p.getD d free)).k = 0 from e)] at h2
      cases h2
    have hd : d < 16 := by
      rcases Nat.lt_or_ge d 16 with h | h
      · exact h
      · exfalso; apply hdk
        rw [List.getD_eq_getElem?_getD, List.getElem?_eq_none (by rw [hp.len]; exact h)]; rfl
    rw [wordsOf_conv hdk] at h2
    have ih := rea_rch hp h1 hdk hd
    have hu : used p (cellN x) = true := by
      rw [show cellN x = ((cellN x).toNat : Int) by omega, used16 hp hc]
      exact bne_iff_ne.2 hk
    have := Rch.step (p := p) (ws := all) d x ih h2 h3 hu
    rwa [show cellN x = ((cellN x).toNat : Int) by omega] at this
theorem rch_rea {p : List Cp.Cel} (hp : PlainOk p) {all : List Int} : ∀ {c : Int}, Rch p all c → ∃ n : Nat, c = n ∧ n < 16 ∧ (p.getD n free).k ≠ 0 ∧ Gp.Rea (p.map conv) (rootsOf p all) n
  | _, .src v h1 h2 h3 => by
    obtain ⟨n, e, hn, hk⟩ := Mr.used_nat h3
    rw [hp.len] at hn
    have := Gp.Rea.src (h := p.map conv) (ws := rootsOf p all) v (by unfold rootsOf; rw [List.mem_filter]; exact ⟨h1, (rootOk_iff hp v).2 ⟨h2, h3⟩⟩) h2
    rw [e, Int.toNat_natCast] at this
    exact ⟨n, e, hn, hk, this⟩
  | _, .step d v h1 h2 h3 h4 => by
    obtain ⟨m, rfl, hm, hk, ih⟩ := rch_rea hp h1
    obtain ⟨n, e, hn, hk2⟩ := Mr.used_nat h4
    rw [hp.len] at hn
    have := Gp.Rea.step (h := p.map conv) (ws := rootsOf p all) m v ih (by rw [wordsOf_conv hk]; exact h2) h3
    rw [e, Int.toNat_natCast] at this
    exact ⟨n, e, hn, hk2, this⟩
/-- JUST WHAT IS REACHED. -/
theorem black_iff {p : List Cp.Cel} (hp : PlainOk p) {all : List Int} (hm : Gp.may (p.map conv) (rootsOf p all) = true) {c : Nat} (hc : c < 16) :
    ((Gp.order (p.map conv) (rootsOf p all)).1.getD c true = true ∧ (p.getD c free).k ≠ 0) ↔ Rch p all c := by
  rw [Gp.order_at hm c (by rw [List.length_map, hp.len]; exact hc)]
  constructor
  · rintro ⟨h1, h2⟩; exact rea_rch hp h1 h2 hc
  · intro h
    obtain ⟨n, e, hn, hk, hr⟩ := rch_rea hp h
    obtain rfl : c = n := by omega
    exact ⟨hr, hk⟩
theorem fixW_ok (v : Int) : okW (fixW v) := by
  rcases fixW_cases v with ⟨_, _, e⟩ | ⟨h1, h2, e⟩ | ⟨_, _, _, e⟩ | ⟨h1, h2, h3, e⟩
  · rw [e]; exact ⟨by decide, by decide⟩
  · rw [e]; exact ⟨h1, fun h => by rw [h2] at h; cases h⟩
  · rw [e]; exact ⟨by decide, by decide⟩
  · rw [e]; exact ⟨h1, fun _ => h3⟩
theorem plainC_ok (x : Cp.Cel) : (plainC x).k ≤ 3 ∧ (plainC x).c = 0 ∧ ((plainC x).k ≠ 0 → okW (plainC x).a ∧ okW (plainC x).b) := by
  unfold plainC
  split
  · next h => exact ⟨h.2, rfl, fun _ => ⟨fixW_ok _, fixW_ok _⟩⟩
  · exact ⟨by decide, rfl, fun h => absurd rfl h⟩
theorem plain_ok (cs : List Cp.Cel) : PlainOk (plainK cs 16) := by
  refine ⟨by simp [plainK], fun c hc => ?_⟩
  have : (plainK cs 16).getD c free = plainC (cs.getD c free) := by
    unfold plainK
    simp [List.getD_eq_getElem?_getD, hc]
  rw [this]; exact plainC_ok _
end Go.Proofs.YtefamhdkfdgdjaaDoor.Mr
