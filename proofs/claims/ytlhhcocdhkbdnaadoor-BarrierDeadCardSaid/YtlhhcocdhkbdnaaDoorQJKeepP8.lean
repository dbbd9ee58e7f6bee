/-
  PLAIN LAWS (no program) of BarrierKeeps: what is known, what guards well; the rule is kept by what changes nothing else.
  PLAIN LAWS (no program) of BarrierKeeps, on: where the rule is kept, Holds says so; shading.
  PLAIN LAWS (no program) of BarrierKeeps, on: each change that keeps the rule.
  PLAIN LAWS (no program) of BarrierKeeps, on: globals, lanes, a filled cell, a cell looked into.
  PLAIN LAWS (no program) of BarrierKeeps, on: the steps; each keeps the rule.
  PLAIN LAWS (no program) of BarrierKeeps, on: every step keeps the rule.
  PLAIN LAWS (no program) of BarrierKeeps, on: the collector's steps, its end.
  THE PLAIN LAW of BarrierKeeps, on: where Holds says so, the rule holds.
-/
import Derived.Test.YtlhhcocdhkbdnaaDoorQView13
import Derived.Test.YtlhhcocdhkbdnaaDoorQHolds
import Derived.Test.YtlhhcocdhkbdnaaDoorQBar1
set_option linter.unusedVariables false
set_option linter.unusedSimpArgs false
namespace Go.Proofs.YtlhhcocdhkbdnaaDoor.Kp
open Go.Proofs.YtlhhcocdhkbdnaaDoor.Wd Go.Proofs.YtlhhcocdhkbdnaaDoor.Gp Go.Proofs.YtlhhcocdhkbdnaaDoor.Bp
abbrev cel (v : Vw) (i : Nat) : Cel := v.cells.getD i z
abbrev wh (v : Vw) (i : Nat) : Prop := whiteC (cel v i) = true
abbrev cl (x : Int) : Nat := (cellN x).toNat
theorem out_z {l : List Cel} {i : Nat} (h : ¬ i < l.length) : l.getD i z = z := by simp [List.getD, Nat.le_of_not_lt h]
theorem wh_lt {v : Vw} {i : Nat} (h : wh v i) : i < v.cells.length := by
  by_cases hi : i < v.cells.length
  · exact hi
  · unfold wh cel at h; rw [out_z hi] at h; simp [whiteC, z] at h
/-- What the collector knows. -/
def Kn (v : Vw) (x : Int) : Prop := x ∈ v.globals.take v.laid.toNat ∨ (∃ d, d < v.cells.length ∧ blackC (cel v d) = true ∧ (x = (cel v d).a ∨ x = (cel v d).b)) ∨ ∃ l ∈ v.lanes, l.sc = true ∧ x ∈ l.roots
/-- What it will still look at, whatever lanes do. -/
def Sw (v : Vw) (x : Int) : Prop := x ∈ v.globals.drop v.laid.toNat ∨ (∃ d, d < v.cells.length ∧ isGrey (cel v d) = true ∧ (x = (cel v d).a ∨ x = (cel v d).b)) ∨ ∃ l ∈ v.lanes, l.sc = false ∧ l.en = true ∧ x ∈ l.roots
/-- Well guarded. -/
inductive Wl (v : Vw) : Nat → Prop
  | src (x : Int) : Sw v x → isRef x = true → wh v (cl x) → Wl v (cl x)
  | step (d : Nat) (x : Int) : Wl v d → (x = (cel v d).a ∨ x = (cel v d).b) → isRef x = true → wh v (cl x) → Wl v (cl x)
theorem Wl.wh {v : Vw} {c : Nat} (h : Wl v c) : wh v c := by cases h <;> assumption
/-- THE RULE: what is known names no white cell that is not well guarded. -/
def K2 (v : Vw) : Prop := ∀ x, Kn v x → isRef x = true → wh v (cl x) → Wl v (cl x)
/-- The rule is kept where white ones become fewer, and what guards stays, or names no white one. -/
theorem pres {v v' : Vw} (h : K2 v) (hw : ∀ c, wh v' c → wh v c) (hs : ∀ y, Sw v y → isRef y = true → wh v' (cl y) → Sw v' y)
    (hd : ∀ d y, wh v d → (y = (cel v d).a ∨ y = (cel v d).b) → isRef y = true → wh v' (cl y) → (wh v' d ∧ (y = (cel v' d).a ∨ y = (cel v' d).b)) ∨ Sw v' y)
    (hk : ∀ y, Kn v' y → isRef y = true → wh v' (cl y) → Kn v y ∨ Wl v (cl y) ∨ Sw v' y) : K2 v' := by
  have tr : ∀ c, Wl v c → wh v' c → Wl v' c := by
    intro c hc
    induction hc with
    | src x h1 h2 h3 => exact fun hx => .src x (hs x h1 h2 hx) h2 hx
    | step d x h1 h2 h3 h4 ih =>
      intro hx
      rcases hd d x h1.wh h2 h3 hx with ⟨g1, g2⟩ | g
      · exact .step d x (ih g1) g2 h3 hx
      · exact .src x g h3 hx
  intro y hy hr hx
  rcases hk y hy hr hx with g | g | g
  · exact tr _ (h y g hr (hw _ hx)) hx
  · exact tr _ g hx
  · exact .src y g hr hx
theorem kn_mem (v : Vw) (x : Int) : x ∈ knownL v ↔ Kn v x := by
  rw [← laid_mem]
  unfold laidR Kn
  simp only [List.mem_append, List.mem_flatMap]
  constructor
  · rintro ((h | ⟨l, h1, h2⟩) | ⟨y, h1, h2⟩)
    · exact .inl h
    · refine .inr (.inr ⟨l, h1, ?_⟩)
      unfold sr at h2; split at h2
      · exact ⟨by assumption, h2⟩
      · cases h2
    · obtain ⟨i, hi, rfl⟩ := mem_getD z h1
      refine .inr (.inl ⟨i, hi, ?_⟩)
      unfold bw at h2; split at h2
      · exact ⟨by assumption, by simpa using h2⟩
      · cases h2
  · rintro (h | ⟨d, h1, h2, h3⟩ | ⟨l, h1, h2, h3⟩)
    · exact .inl (.inl h)
    · exact .inr ⟨_, getD_memD z h1, by unfold bw; rw [if_pos h2]; simpa using h3⟩
    · exact .inl (.inr ⟨l, h1, by unfold sr; rw [if_pos h2]; exact h3⟩)
theorem sw_mem (v : Vw) (hk : VOk v) (x : Int) : x ∈ srcL v Ln.en ↔ Sw v x := by
  rw [← src_mem hk]
  unfold srcR Sw
  simp only [List.mem_append, List.mem_flatMap]
  constructor
  · rintro ((⟨y, h1, h2⟩ | h) | ⟨l, h1, h2⟩)
    · obtain ⟨i, hi, rfl⟩ := mem_getD z h1
      refine .inr (.inl ⟨i, hi, ?_⟩)
      unfold gw at h2; split at h2
      · exact ⟨by assumption, by simpa using h2⟩
      · cases h2
    · exact .inl h
    · refine .inr (.inr ⟨l, h1, ?_⟩)
      unfold lr at h2; split at h2
      · rename_i he
        simp at he
        exact ⟨he.1, he.2, h2⟩
      · cases h2
  · rintro (h | ⟨d, h1, h2, h3⟩ | ⟨l, h1, h2, h3, h4⟩)
    · exact .inl (.inr h)
    · exact .inl (.inl ⟨_, getD_memD z h1, by unfold gw; rw [if_pos h2]; simpa using h3⟩)
    · exact .inr ⟨l, h1, by unfold lr; rw [if_pos (by simp [h2, h3])]; exact h4⟩
theorem wl_rch {v : Vw} (hk : VOk v) {c : Nat} : Wl v c ↔ Rch v.cells whiteC (srcL v Ln.en) c := by
  constructor
  · intro h
    induction h with
    | src x h1 h2 h3 => exact .src x ((sw_mem v hk x).2 h1) h2 (wh_lt h3) h3
    | step d x _ h2 h3 h4 ih => exact .step d x ih h2 h3 (wh_lt h4) h4
  · intro h
    induction h with
    | src x h1 h2 h3 h4 => exact .src x ((sw_mem v hk x).1 h1) h2 h4
    | step d x _ h2 h3 h4 h5 ih => exact .step d x ih h2 h3 h5
/-- A view that is one. -/
structure MV (v : Vw) : Prop where
  ph : v.ph = 1 ∨ v.ph = 2
  sw : 0 ≤ v.sw ∧ v.sw ≤ v.cells.length
  laid : 0 ≤ v.laid ∧ v.laid ≤ v.globals.length
  globals : ∀ x ∈ v.globals, isWord x v.cells.length = true
  cells : ∀ i, i < v.cells.length → cellOk v.cells.length (cel v i) = true
  gin : ∀ c ∈ v.grey, 0 ≤ c ∧ c < v.cells.length
  nd : v.grey.Nodup
  gs : ∀ i, i < v.cells.length → ((i : Int) ∈ v.grey ↔ isGrey (cel v i) = true)
  roots : ∀ l ∈ v.lanes, ∀ x ∈ l.roots, isWord x v.cells.length = true
theorem all_at {α : Type} (d : α) {l : List α} {p : α → Bool} (h : ∀ i, i < l.length → p (l.getD i d) = true) : l.all p = true := by
  rw [List.all_eq_true]
  intro x hx
  obtain ⟨i, hi, rfl⟩ := mem_getD d hx
  exact h i hi
theorem MV.may {v : Vw} (h : MV v) : mayV v = true := by
  rw [← rightV_eq]
  have hph := h.ph
  have hsw := h.sw
  have hld := h.laid
  have hc : v.cells.all (cellOk v.cells.length) = true := all_at z h.cells
  have hm : ∀ ws : List Int, (∀ x ∈ ws, isWord x v.cells.length = true) → Gp.may v.cells ws = true := fun ws hws => by
    rw [may_eq, hc, Bool.true_and]
    unfold rightW
    exact List.all_eq_true.2 hws
  unfold rightV numsOk greyIn greySame
  simp only [Bool.and_eq_true, Bool.not_eq_true', decide_eq_false_iff_not, List.all_eq_true, decide_eq_true_eq]
  refine ⟨⟨by omega, by omega, by omega, by omega, by omega⟩, hm _ h.globals, fun l hl => hm _ (h.roots l hl), ⟨fun c hc => by have := h.gin c hc; simpa using this, (nodupB_iff _).2 h.nd⟩, fun i hi => ?_⟩
  have hi' := List.mem_range.1 hi
  have := h.gs i hi'
  cases hg : isGrey (v.cells.getD i z)
  · simp only [beq_iff_eq, decide_eq_false_iff_not]
    intro hm
    have h2 := this.1 hm
    unfold cel at h2; rw [hg] at h2; cases h2
  · simp only [beq_iff_eq, decide_eq_true_eq]
    exact this.2 hg
end Go.Proofs.YtlhhcocdhkbdnaaDoor.Kp

set_option linter.unusedVariables false
set_option linter.unusedSimpArgs false
namespace Go.Proofs.YtlhhcocdhkbdnaaDoor.Kp
open Go.Proofs.YtlhhcocdhkbdnaaDoor.Wd Go.Proofs.YtlhhcocdhkbdnaaDoor.Gp Go.Proofs.YtlhhcocdhkbdnaaDoor.Bp
/-- What it will look at. -/
def Sb (v : Vw) (x : Int) : Prop := x ∈ v.globals.drop v.laid.toNat ∨ (∃ d, d < v.cells.length ∧ isGrey (cel v d) = true ∧ (x = (cel v d).a ∨ x = (cel v d).b)) ∨ ∃ l ∈ v.lanes, l.sc = false ∧ x ∈ l.roots
theorem sb_mem (v : Vw) (hk : VOk v) (x : Int) : x ∈ srcL v (fun _ => true) ↔ Sb v x := by
  rw [← src_mem hk]
  unfold srcR Sb
  simp only [List.mem_append, List.mem_flatMap]
  constructor
  · rintro ((⟨y, h1, h2⟩ | h) | ⟨l, h1, h2⟩)
    · obtain ⟨i, hi, rfl⟩ := mem_getD z h1
      refine .inr (.inl ⟨i, hi, ?_⟩)
      unfold gw at h2; split at h2
      · exact ⟨by assumption, by simpa using h2⟩
      · cases h2
    · exact .inl h
    · refine .inr (.inr ⟨l, h1, ?_⟩)
      unfold lr at h2; split at h2
      · rename_i he
        simp at he
        exact ⟨he, h2⟩
      · cases h2
  · rintro (h | ⟨d, h1, h2, h3⟩ | ⟨l, h1, h2, h3⟩)
    · exact .inl (.inr h)
    · exact .inl (.inl ⟨_, getD_memD z h1, by unfold gw; rw [if_pos h2]; simpa using h3⟩)
    · exact .inr ⟨l, h1, by unfold lr; rw [if_pos (by simp [h2])]; exact h3⟩
theorem sw_sb {v : Vw} {x : Int} (h : Sw v x) : Sb v x := by
  rcases h with h | h | ⟨l, h1, h2, h3, h4⟩
  · exact .inl h
  · exact .inr (.inl h)
  · exact .inr (.inr ⟨l, h1, h2, h4⟩)
theorem well_by {v : Vw} (hk : VOk v) {c : Nat} (h : Wl v c) : Rch v.cells whiteC (srcL v (fun _ => true)) c := by
  induction h with
  | src x h1 h2 h3 => exact .src x ((sb_mem v hk x).2 (sw_sb h1)) h2 (wh_lt h3) h3
  | step d x _ h2 h3 h4 ih => exact .step d x ih h2 h3 (wh_lt h4) h4
theorem colours {x : Cel} (h : InR x) (ho : ¬ 2 < x.c) (hk : nofree x = true) : whiteC x = true ∨ isGrey x = true ∨ blackC x = true := by
  unfold nofree at hk
  unfold whiteC isGrey blackC
  rw [hk]
  have h1 := h.2.2.1
  rcases (show x.c = 0 ∨ x.c = 1 ∨ x.c = 2 by omega) with e | e | e <;> simp [e]
theorem live_by {v : Vw} (hm : MV v) (hk : VOk v) (hi : ∀ x ∈ v.cells, InR x) (h2 : K2 v) {c : Nat} (h : Rch v.cells nofree (rootsL v) c) : wh v c → Rch v.cells whiteC (srcL v (fun _ => true)) c := by
  have kn : ∀ x, Kn v x → isRef x = true → wh v (cl x) → Rch v.cells whiteC (srcL v (fun _ => true)) (cl x) := fun x a b c => well_by hk (h2 x a b c)
  have sb : ∀ x, Sb v x → isRef x = true → wh v (cl x) → Rch v.cells whiteC (srcL v (fun _ => true)) (cl x) := fun x a b c => .src x ((sb_mem v hk x).2 a) b (wh_lt c) c
  induction h with
  | src x h1 h3 h4 h5 =>
    intro hw
    unfold rootsL rt at h1
    rw [List.take_length] at h1
    rcases List.mem_append.1 h1 with h1 | h1
    · rw [← List.take_append_drop v.laid.toNat v.globals] at h1
      rcases List.mem_append.1 h1 with h1 | h1
      · exact kn x (.inl h1) h3 hw
      · exact sb x (.inl h1) h3 hw
    · obtain ⟨l, hl, hx⟩ := List.mem_flatMap.1 h1
      cases hs : l.sc
      · exact sb x (.inr (.inr ⟨l, hl, hs, hx⟩)) h3 hw
      · exact kn x (.inr (.inr ⟨l, hl, hs, hx⟩)) h3 hw
  | step d x hd hx h3 h4 h5 ih =>
    intro hw
    have hdl := hd.lt
    have hdc := hd.cnt
    have hmem := getD_memD z hdl
    have hok := hm.cells d hdl
    unfold cellOk at hok
    simp only [Bool.and_eq_true, Bool.not_eq_true', decide_eq_false_iff_not] at hok
    rcases colours (hi _ hmem) hok.2.1 hdc with e | e | e
    · exact .step d x (ih e) hx h3 h4 hw
    · exact sb x (.inr (.inl ⟨d, hdl, e, hx⟩)) h3 hw
    · exact kn x (.inr (.inl ⟨d, hdl, e, hx⟩)) h3 hw
/-- Holds says so. -/
theorem holds_of {v : Vw} (hm : MV v) (hi : ∀ x ∈ v.cells, InR x) (h2 : K2 v) : holdsB v = true ∧ holdsE v = 0 := by
  have hmay := hm.may
  have hk := mayV_ok hmay
  have hf : holdsF v = none := by
    unfold holdsF
    rw [List.find?_eq_none]
    intro i hir
    have hil := List.mem_range.1 hir
    unfold badH
    rw [Bool.not_eq_true]
    cases hw : whiteC (v.cells.getD i z)
    · rfl
    · rw [Bool.true_and]
      have e1 : (liveL v).getD i true = true → (byL v).getD i true = true := fun h => by
        unfold liveL at h; rw [walkF_iff _ _ _ i hil] at h
        unfold byL; rw [walkF_iff _ _ _ i hil]
        exact live_by hm hk hi h2 h hw
      have e2 : (namedL v.cells.length (knownL v)).getD i true = true → (wellL v).getD i true = true := fun h => by
        rw [namedL_at _ _ i hil] at h
        obtain ⟨x, h1, h3, h4⟩ := h
        unfold wellL; rw [walkF_iff _ _ _ i hil, ← wl_rch hk]
        have := h2 x ((kn_mem v x).1 h1) h3 (by unfold wh cel cl; rw [h4]; exact hw)
        rwa [show cl x = i from h4] at this
      cases ha : (liveL v).getD i true
      · cases hb : (namedL v.cells.length (knownL v)).getD i true
        · rfl
        · rw [e2 hb]; rfl
      · rw [e1 ha]
        cases hb : (namedL v.cells.length (knownL v)).getD i true
        · rfl
        · rw [e2 hb]; rfl
  refine ⟨?_, by unfold holdsE; rw [hmay]; rfl⟩
  unfold holdsB
  rw [hmay, hf]; simp
end Go.Proofs.YtlhhcocdhkbdnaaDoor.Kp

set_option linter.unusedVariables false
set_option linter.unusedSimpArgs false
namespace Go.Proofs.YtlhhcocdhkbdnaaDoor.Kp
open Go.Proofs.YtlhhcocdhkbdnaaDoor.Wd Go.Proofs.YtlhhcocdhkbdnaaDoor.Gp Go.Proofs.YtlhhcocdhkbdnaaDoor.Bp
theorem getD_setZ (l : List Cel) (a d : Nat) (x : Cel) (ha : a < l.length) : (l.set a x).getD d z = if d = a then x else l.getD d z := by
  by_cases e : d = a
  · subst e; rw [if_pos rfl]; simp [List.getD_eq_getElem?_getD, ha]
  · rw [if_neg e, List.getD_eq_getElem?_getD, List.getElem?_set_ne (Ne.symm e), ← List.getD_eq_getElem?_getD]
/-- Cells that become grey. -/
def grayC (h : List Cel) (S : List Nat) : List Cel := S.foldl (fun h c => h.set c { h.getD c z with c := 1 }) h
theorem gray_len : ∀ (S : List Nat) (h : List Cel), (grayC h S).length = h.length
  | [], h => rfl
  | c :: S, h => by unfold grayC; rw [List.foldl_cons]; have := gray_len S (h.set c { h.getD c z with c := 1 }); unfold grayC at this; rw [this, List.length_set]
theorem gray_at : ∀ (S : List Nat) (h : List Cel) (i : Nat), (∀ c ∈ S, c < h.length) → (grayC h S).getD i z = if i ∈ S then { h.getD i z with c := 1 } else h.getD i z
  | [], h, i, _ => by simp [grayC]
  | c :: S, h, i, hS => by
    have ih := gray_at S (h.set c { h.getD c z with c := 1 }) i (fun d hd => by rw [List.length_set]; exact hS d (by simp [hd]))
    have e : grayC h (c :: S) = grayC (h.set c { h.getD c z with c := 1 }) S := by simp [grayC]
    rw [e, ih, getD_setZ _ _ _ _ (hS c (by simp))]
    by_cases h1 : i = c
    · subst h1
      by_cases h2 : i ∈ S <;> simp [h2]
    · by_cases h2 : i ∈ S <;> simp [h1, h2]
def shadeV (v : Vw) (S : List Nat) : Vw := { v with cells := grayC v.cells S, grey := v.grey ++ S.map Int.ofNat }
theorem white_not {x : Cel} (h : whiteC x = true) : isGrey x = false ∧ blackC x = false := by
  unfold whiteC at h; simp at h
  unfold isGrey blackC; simp [h.2]
structure SOk (v : Vw) (S : List Nat) : Prop where
  w : ∀ c ∈ S, wh v c
  nd : S.Nodup
theorem SOk.at {v : Vw} {S : List Nat} (h : SOk v S) (i : Nat) : cel (shadeV v S) i = if i ∈ S then { cel v i with c := 1 } else cel v i := gray_at S v.cells i (fun c hc => wh_lt (h.w c hc))
theorem SOk.wh {v : Vw} {S : List Nat} (h : SOk v S) (i : Nat) : wh (shadeV v S) i ↔ wh v i ∧ i ∉ S := by
  unfold Kp.wh
  rw [h.at]
  by_cases hi : i ∈ S
  · rw [if_pos hi]; simp [whiteC, hi]
  · rw [if_neg hi]; simp [hi]
theorem shade_mv {v : Vw} {S : List Nat} (h : SOk v S) (hm : MV v) : MV (shadeV v S) := by
  have hl : (shadeV v S).cells.length = v.cells.length := gray_len _ _
  have hd : ∀ c ∈ S, (c : Int) ∉ v.grey := fun c hc hg => by
    have hw := h.w c hc
    have := (hm.gs c (wh_lt hw)).1 hg
    rw [(white_not hw).1] at this; cases this
  refine ⟨hm.ph, by rw [hl]; exact hm.sw, hm.laid, fun x hx => by rw [hl]; exact hm.globals x hx, fun i hi => ?_, fun c hc => ?_, ?_, fun i hi => ?_, fun l hl2 x hx => by rw [hl]; exact hm.roots l hl2 x hx⟩
  · rw [hl] at hi ⊢
    rw [h.at]
    have := hm.cells i hi
    split
    · unfold cellOk at this ⊢
      simp only [Bool.and_eq_true, Bool.not_eq_true', decide_eq_false_iff_not] at this ⊢
      exact ⟨this.1, by simp, this.2.2⟩
    · exact this
  · rw [hl]
    rcases List.mem_append.1 hc with hc | hc
    · exact hm.gin c hc
    · obtain ⟨d, hd1, rfl⟩ := List.mem_map.1 hc
      have := wh_lt (h.w d hd1)
      exact ⟨by simp, by simp; exact this⟩
  · show (v.grey ++ S.map Int.ofNat).Nodup
    rw [List.nodup_append]
    refine ⟨hm.nd, ?_, fun a ha b hb => ?_⟩
    · exact List.Pairwise.map Int.ofNat (fun a b hne e => hne (Int.ofNat.inj e)) h.nd
    · obtain ⟨d, hd1, rfl⟩ := List.mem_map.1 hb
      exact fun e => hd d hd1 (by simpa [e] using ha)
  · rw [hl] at hi
    rw [h.at]
    show (i : Int) ∈ v.grey ++ S.map Int.ofNat ↔ _
    have hmem : (i : Int) ∈ S.map Int.ofNat ↔ i ∈ S := by
      rw [List.mem_map]
      constructor
      · rintro ⟨d, h1, h2⟩; have h3 : d = i := Int.ofNat.inj h2; subst h3; exact h1
      · exact fun h1 => ⟨i, h1, rfl⟩
    rw [List.mem_append, hmem, hm.gs i hi]
    by_cases hs : i ∈ S
    · rw [if_pos hs]
      have hw := h.w i hs
      unfold Kp.wh whiteC at hw; simp at hw
      simp [hs, isGrey, hw.1]
    · rw [if_neg hs]; simp [hs]
theorem shade_k2 {v : Vw} {S : List Nat} (h : SOk v S) (hm : MV v) (h2 : K2 v) : K2 (shadeV v S) := by
  have hl : (shadeV v S).cells.length = v.cells.length := gray_len _ _
  have wn : ∀ d, (isGrey (cel v d) = true ∨ blackC (cel v d) = true) → d ∉ S := fun d hg hs => by
    have := white_not (h.w d hs)
    rcases hg with e | e
    · rw [this.1] at e; cases e
    · rw [this.2] at e; cases e
  refine pres h2 (fun c hc => ((h.wh c).1 hc).1) (fun y hy hr hw => ?_) (fun d y hd hy hr hw => ?_) (fun y hy hr hw => .inl ?_)
  · rcases hy with e | ⟨d, h3, h4, h5⟩ | e
    · exact .inl e
    · refine .inr (.inl ⟨d, by rw [hl]; exact h3, ?_⟩)
      rw [h.at, if_neg (wn d (.inl h4))]
      exact ⟨h4, h5⟩
    · exact .inr (.inr e)
  · by_cases hs : d ∈ S
    · right
      refine .inr (.inl ⟨d, by rw [hl]; exact wh_lt hd, ?_⟩)
      rw [h.at, if_pos hs]
      unfold wh whiteC at hd; simp at hd
      exact ⟨by simp [isGrey, hd.1], hy⟩
    · left
      refine ⟨(h.wh d).2 ⟨hd, hs⟩, ?_⟩
      rw [h.at, if_neg hs]; exact hy
  · rcases hy with e | ⟨d, h3, h4, h5⟩ | e
    · exact .inl e
    · rw [h.at] at h4 h5
      by_cases hs : d ∈ S
      · rw [if_pos hs] at h4; simp [blackC] at h4
      · rw [if_neg hs] at h4 h5
        exact .inr (.inl ⟨d, by rw [hl] at h3; exact h3, h4, h5⟩)
    · exact .inr (.inr e)
/-- A field of a cell. -/
def fget (x : Cel) (f : Bool) : Int := if f then x.b else x.a
def fset (x : Cel) (f : Bool) (y : Int) : Cel := if f then { x with b := y } else { x with a := y }
theorem fset_kc (x : Cel) (f : Bool) (y : Int) : (fset x f y).k = x.k ∧ (fset x f y).c = x.c := by unfold fset; split <;> exact ⟨rfl, rfl⟩
theorem fset_words (x : Cel) (f : Bool) (y u : Int) : (u = (fset x f y).a ∨ u = (fset x f y).b) → u = y ∨ (u = x.a ∨ u = x.b) := by
  unfold fset; split <;> simp <;> rintro (h | h) <;> simp [h]
theorem fset_keep (x : Cel) (f : Bool) (y u : Int) (h : u = x.a ∨ u = x.b) : u = fget x f ∨ (u = (fset x f y).a ∨ u = (fset x f y).b) := by
  unfold fset fget; split <;> simp <;> rcases h with h | h <;> simp [h]
def setW (v : Vw) (d : Nat) (f : Bool) (x : Int) : Vw := { v with cells := v.cells.set d (fset (cel v d) f x) }
theorem setW_at (v : Vw) (d : Nat) (f : Bool) (x : Int) (hd : d < v.cells.length) (i : Nat) : cel (setW v d f x) i = if i = d then fset (cel v d) f x else cel v i := getD_setZ _ _ _ _ hd
theorem kc_same {x y : Cel} (h : y.k = x.k ∧ y.c = x.c) : whiteC y = whiteC x ∧ isGrey y = isGrey x ∧ blackC y = blackC x := by
  unfold whiteC isGrey blackC; rw [h.1, h.2]; exact ⟨rfl, rfl, rfl⟩
theorem setW_kc (v : Vw) (d : Nat) (f : Bool) (x : Int) (hd : d < v.cells.length) (i : Nat) : (cel (setW v d f x) i).k = (cel v i).k ∧ (cel (setW v d f x) i).c = (cel v i).c := by
  rw [setW_at v d f x hd]
  split
  · rename_i e; subst e; exact fset_kc _ _ _
  · exact ⟨rfl, rfl⟩
theorem store_ok {v : Vw} {d : Nat} {f : Bool} {x : Int} (hm : MV v) (h2 : K2 v) (hd : d < v.cells.length) (hx : isWord x v.cells.length = true) (ho : isRef (fget (cel v d) f) = true → ¬ wh v (cl (fget (cel v d) f)))
    (hb : blackC (cel v d) = true → isRef x = true → wh v (cl x) → Kn v x) : MV (setW v d f x) ∧ K2 (setW v d f x) ∧ ∀ i, wh (setW v d f x) i ↔ wh v i := by
  have hl : (setW v d f x).cells.length = v.cells.length := List.length_set
  have kc := setW_kc v d f x hd
  have hw : ∀ i, wh (setW v d f x) i ↔ wh v i := fun i => by unfold wh; rw [(kc_same (kc i)).1]
  refine ⟨⟨hm.ph, by rw [hl]; exact hm.sw, hm.laid, fun y hy => by rw [hl]; exact hm.globals y hy, fun i hi => ?_, fun c hc => by rw [hl]; exact hm.gin c hc, hm.nd, fun i hi => ?_, fun l hl2 y hy => by rw [hl]; exact hm.roots l hl2 y hy⟩, ?_, hw⟩
  · rw [hl] at hi ⊢
    have h0 := hm.cells i hi
    rw [setW_at v d f x hd]
    split
    · rename_i e; subst e
      unfold cellOk rightW at h0 ⊢
      rw [(fset_kc _ _ _).1, (fset_kc _ _ _).2]
      simp only [Bool.and_eq_true, Bool.or_eq_true, List.all_cons, List.all_nil] at h0 ⊢
      refine ⟨h0.1, h0.2.1, ?_⟩
      rcases h0.2.2 with e | ⟨e1, e2, _⟩
      · exact .inl e
      · right
        unfold fset
        split
        · exact ⟨e1, hx, trivial⟩
        · exact ⟨hx, e2, trivial⟩
    · exact h0
  · rw [hl] at hi
    rw [(kc_same (kc i)).2.1]; exact hm.gs i hi
  · refine pres h2 (fun c hc => (hw c).1 hc) (fun y hy hr hwy => ?_) (fun e y he hy hr hwy => ?_) (fun y hy hr hwy => .inl ?_)
    · rcases hy with e | ⟨e, h3, h4, h5⟩ | e
      · exact .inl e
      · refine .inr (.inl ⟨e, by rw [hl]; exact h3, by rw [(kc_same (kc e)).2.1]; exact h4, ?_⟩)
        rw [setW_at v d f x hd]
        split
        · rename_i e1; subst e1
          rcases fset_keep _ f x y h5 with e2 | e2
          · exact absurd ((hw _).1 hwy) (by rw [e2]; exact ho (by rw [← e2]; exact hr))
          · exact e2
        · exact h5
      · exact .inr (.inr e)
    · left
      refine ⟨(hw e).2 he, ?_⟩
      rw [setW_at v d f x hd]
      split
      · rename_i e1; subst e1
        rcases fset_keep _ f x y hy with e2 | e2
        · exact absurd ((hw _).1 hwy) (by rw [e2]; exact ho (by rw [← e2]; exact hr))
        · exact e2
      · exact hy
    · rcases hy with e | ⟨e, h3, h4, h5⟩ | e
      · exact .inl e
      · rw [(kc_same (kc e)).2.2] at h4
        rw [setW_at v d f x hd] at h5
        split at h5
        · rename_i e1; subst e1
          rcases fset_words _ _ _ _ h5 with e2 | e2
          · rw [e2]; rw [e2] at hr hwy; exact hb h4 hr ((hw _).1 hwy)
          · exact .inr (.inl ⟨e, hd, h4, e2⟩)
        · exact .inr (.inl ⟨e, by rw [hl] at h3; exact h3, h4, h5⟩)
      · exact .inr (.inr e)
end Go.Proofs.YtlhhcocdhkbdnaaDoor.Kp

set_option linter.unusedVariables false
set_option linter.unusedSimpArgs false
namespace Go.Proofs.YtlhhcocdhkbdnaaDoor.Kp
open Go.Proofs.YtlhhcocdhkbdnaaDoor.Wd Go.Proofs.YtlhhcocdhkbdnaaDoor.Gp Go.Proofs.YtlhhcocdhkbdnaaDoor.Bp
theorem mem_set_of {α : Type} {l : List α} {k : Nat} {x y : α} (h : y ∈ l.set k x) : y ∈ l ∨ y = x := List.mem_or_eq_of_mem_set h
theorem take_set_mem {l : List Int} {k m : Nat} {x y : Int} (h : y ∈ (l.set k x).take m) : y ∈ l.take m ∨ (y = x ∧ k < m) := by
  by_cases hk : k < m
  · rw [List.take_set] at h
    exact (mem_set_of h).imp id (fun e => ⟨e, hk⟩)
  · rw [List.take_set_of_le (by omega)] at h
    exact .inl h
theorem drop_set_mem {l : List Int} {k m : Nat} {x y : Int} (h : y ∈ l.drop m) : y ∈ (l.set k x).drop m ∨ y = l.getD k 0 := by
  obtain ⟨i, hi, rfl⟩ := List.getElem_of_mem h
  rw [List.length_drop] at hi
  rw [List.getElem_drop]
  by_cases e : m + i = k
  · right; subst e; simp [List.getD_eq_getElem?_getD, show m + i < l.length by omega]
  · left
    rw [List.mem_iff_getElem]
    refine ⟨i, by rw [List.length_drop, List.length_set]; exact hi, ?_⟩
    rw [List.getElem_drop, List.getElem_set_ne (Ne.symm e)]
def setG (v : Vw) (k : Nat) (x : Int) : Vw := { v with globals := v.globals.set k x }
theorem lay_ok {v : Vw} {k : Nat} {x : Int} (hm : MV v) (h2 : K2 v) (hx : isWord x v.cells.length = true) (ho : isRef (v.globals.getD k 0) = true → ¬ wh v (cl (v.globals.getD k 0)))
    (hb : isRef x = true → wh v (cl x) → Kn v x) : MV (setG v k x) ∧ K2 (setG v k x) := by
  refine ⟨⟨hm.ph, hm.sw, by show 0 ≤ v.laid ∧ v.laid ≤ ((v.globals.set k x).length : Nat); rw [List.length_set]; exact hm.laid, fun y hy => ?_, hm.cells, hm.gin, hm.nd, hm.gs, hm.roots⟩, ?_⟩
  · rcases mem_set_of hy with e | e
    · exact hm.globals y e
    · rw [e]; exact hx
  · refine pres h2 (fun c hc => hc) (fun y hy hr hw => ?_) (fun d y hd hy hr hw => .inl ⟨hd, hy⟩) (fun y hy hr hw => .inl ?_)
    · rcases hy with e | e | e
      · rcases drop_set_mem (k := k) (x := x) e with e | e
        · exact .inl e
        · exact absurd hw (by rw [e]; exact ho (by rw [← e]; exact hr))
      · exact .inr (.inl e)
      · exact .inr (.inr e)
    · rcases hy with e | e | e
      · rcases take_set_mem e with e | ⟨e, _⟩
        · exact .inl e
        · rw [e]; rw [e] at hr hw; exact hb hr hw
      · exact .inr (.inl e)
      · exact .inr (.inr e)
/-- One more global is laid. -/
def laidV (v : Vw) : Vw := { v with laid := v.laid + 1 }
theorem laid_ok {v : Vw} (hm : MV v) (h2 : K2 v) (hl : v.laid < v.globals.length) (hg : isRef (v.globals.getD v.laid.toNat 0) = true → ¬ wh v (cl (v.globals.getD v.laid.toNat 0))) : MV (laidV v) ∧ K2 (laidV v) := by
  have h0 := hm.laid
  have hln : v.laid.toNat < v.globals.length := by omega
  have e1 : (v.laid + 1).toNat = v.laid.toNat + 1 := by omega
  have eg : v.globals[v.laid.toNat] = v.globals.getD v.laid.toNat 0 := by simp [List.getD_eq_getElem?_getD, hln]
  refine ⟨⟨hm.ph, hm.sw, by show 0 ≤ v.laid + 1 ∧ v.laid + 1 ≤ (v.globals.length : Int); omega, hm.globals, hm.cells, hm.gin, hm.nd, hm.gs, hm.roots⟩, ?_⟩
  refine pres h2 (fun c hc => hc) (fun y hy hr hw => ?_) (fun d y hd hy hr hw => .inl ⟨hd, hy⟩) (fun y hy hr hw => .inl ?_)
  · rcases hy with e | e | e
    · rw [List.drop_eq_getElem_cons hln] at e
      rcases List.mem_cons.1 e with e | e
      · rw [eg] at e
        exact absurd hw (by rw [e]; exact hg (by rw [← e]; exact hr))
      · refine .inl ?_
        show y ∈ v.globals.drop (v.laid + 1).toNat
        rw [e1]; exact e
    · exact .inr (.inl e)
    · exact .inr (.inr e)
  · rcases hy with e | e | e
    · have e' : y ∈ v.globals.take (v.laid + 1).toNat := e
      rw [e1, List.take_succ_eq_append_getElem hln] at e'
      rcases List.mem_append.1 e' with e | e
      · exact .inl e
      · rw [List.mem_singleton, eg] at e
        exact absurd hw (by rw [e]; exact hg (by rw [← e]; exact hr))
    · exact .inr (.inl e)
    · exact .inr (.inr e)
/-- A lane becomes another one. -/
def setL (v : Vw) (j : Nat) (l : Ln) : Vw := { v with lanes := v.lanes.set j l }
theorem lane_ok {v : Vw} {j : Nat} {l : Ln} (hm : MV v) (h2 : K2 v) (hr : ∀ x ∈ l.roots, isWord x v.cells.length = true)
    (hk : l.sc = true → ∀ y ∈ l.roots, isRef y = true → wh v (cl y) → Kn v y ∨ Wl v (cl y))
    (hs : (v.lanes.getD j ln0).sc = false → (v.lanes.getD j ln0).en = true → ∀ y ∈ (v.lanes.getD j ln0).roots, isRef y = true → wh v (cl y) → l.sc = false ∧ l.en = true ∧ y ∈ l.roots) : MV (setL v j l) ∧ K2 (setL v j l) := by
  refine ⟨⟨hm.ph, hm.sw, hm.laid, hm.globals, hm.cells, hm.gin, hm.nd, hm.gs, fun l2 hl2 x hx => ?_⟩, ?_⟩
  · rcases mem_set_of hl2 with e | e
    · exact hm.roots l2 e x hx
    · rw [e] at hx; exact hr x hx
  · refine pres h2 (fun c hc => hc) (fun y hy hry hw => ?_) (fun d y hd hy hry hw => .inl ⟨hd, hy⟩) (fun y hy hry hw => ?_)
    · rcases hy with e | e | ⟨l2, e1, e2, e3, e4⟩
      · exact .inl e
      · exact .inr (.inl e)
      · obtain ⟨i, hi, rfl⟩ := mem_getD ln0 e1
        by_cases e : i = j
        · subst e
          obtain ⟨g1, g2, g3⟩ := hs e2 e3 y e4 hry hw
          exact .inr (.inr ⟨l, List.mem_iff_getElem.2 ⟨i, by rw [setL, List.length_set]; exact hi, by simp [setL]⟩, g1, g2, g3⟩)
        · refine .inr (.inr ⟨v.lanes.getD i ln0, List.mem_iff_getElem.2 ⟨i, by rw [setL, List.length_set]; exact hi, ?_⟩, e2, e3, e4⟩)
          simp only [setL]
          rw [List.getElem_set_ne (Ne.symm e)]
          simp [List.getD_eq_getElem?_getD, hi]
    · rcases hy with e | e | ⟨l2, e1, e2, e3⟩
      · exact .inl (.inl e)
      · exact .inl (.inr (.inl e))
      · rcases mem_set_of e1 with e | e
        · exact .inl (.inr (.inr ⟨l2, e, e2, e3⟩))
        · rw [e] at e2 e3
          rcases hk e2 y e3 hry hw with g | g
          · exact .inl g
          · exact .inr (.inl g)
/-- A lane comes. -/
def addL (v : Vw) (l : Ln) : Vw := { v with lanes := v.lanes ++ [l] }
theorem add_ok {v : Vw} {l : Ln} (hm : MV v) (h2 : K2 v) (hr : ∀ x ∈ l.roots, isWord x v.cells.length = true) (hk : l.sc = true → ∀ y ∈ l.roots, isRef y = true → wh v (cl y) → Kn v y) : MV (addL v l) ∧ K2 (addL v l) := by
  refine ⟨⟨hm.ph, hm.sw, hm.laid, hm.globals, hm.cells, hm.gin, hm.nd, hm.gs, fun l2 hl2 x hx => ?_⟩, ?_⟩
  · rcases List.mem_append.1 hl2 with e | e
    · exact hm.roots l2 e x hx
    · rw [List.mem_singleton.1 e] at hx; exact hr x hx
  · refine pres h2 (fun c hc => hc) (fun y hy hry hw => ?_) (fun d y hd hy hry hw => .inl ⟨hd, hy⟩) (fun y hy hry hw => .inl ?_)
    · rcases hy with e | e | ⟨l2, e1, e2⟩
      · exact .inl e
      · exact .inr (.inl e)
      · exact .inr (.inr ⟨l2, List.mem_append_left _ e1, e2⟩)
    · rcases hy with e | e | ⟨l2, e1, e2, e3⟩
      · exact .inl e
      · exact .inr (.inl e)
      · rcases List.mem_append.1 e1 with e | e
        · exact .inr (.inr ⟨l2, e, e2, e3⟩)
        · rw [List.mem_singleton.1 e] at e2 e3
          exact hk e2 y e3 hry hw
/-- A free cell is filled, black. -/
def fillV (v : Vw) (d : Nat) (k : Int) (a b : Int) : Vw := { v with cells := v.cells.set d ⟨k, 2, a, b⟩ }
theorem fill_ok {v : Vw} {d : Nat} {k a b : Int} (hm : MV v) (h2 : K2 v) (hd : d < v.cells.length) (h0 : (cel v d).k = 0) (hk : 1 ≤ k ∧ k ≤ 3) (ha : isWord a v.cells.length = true) (hb : isWord b v.cells.length = true)
    (hx : ∀ y, y = a ∨ y = b → isRef y = true → wh v (cl y) → Kn v y) : MV (fillV v d k a b) ∧ K2 (fillV v d k a b) ∧ ∀ i, wh (fillV v d k a b) i ↔ wh v i := by
  have hl : (fillV v d k a b).cells.length = v.cells.length := List.length_set
  have at_ : ∀ i, cel (fillV v d k a b) i = if i = d then ⟨k, 2, a, b⟩ else cel v i := fun i => getD_setZ _ _ _ _ hd
  have f1 : whiteC (cel v d) = false := by unfold whiteC; rw [h0]; rfl
  have f2 : isGrey (cel v d) = false := by unfold isGrey; rw [h0]; rfl
  have hw : ∀ i, wh (fillV v d k a b) i ↔ wh v i := fun i => by
    unfold wh
    rw [at_]
    split
    · rename_i e; subst e; rw [f1]; simp [whiteC]
    · exact Iff.rfl
  refine ⟨⟨hm.ph, by rw [hl]; exact hm.sw, hm.laid, fun y hy => by rw [hl]; exact hm.globals y hy, fun i hi => ?_, fun c hc => by rw [hl]; exact hm.gin c hc, hm.nd, fun i hi => ?_, fun l hl2 y hy => by rw [hl]; exact hm.roots l hl2 y hy⟩, ?_, hw⟩
  · rw [hl] at hi ⊢
    rw [at_]
    split
    · unfold cellOk rightW
      simp only [Bool.and_eq_true, Bool.not_eq_true', decide_eq_false_iff_not, Bool.or_eq_true, List.all_cons, List.all_nil]
      exact ⟨by omega, by omega, .inr ⟨ha, hb, trivial⟩⟩
    · exact hm.cells i hi
  · rw [hl] at hi
    rw [at_]
    show (i : Int) ∈ v.grey ↔ _
    rw [hm.gs i hi]
    split
    · rename_i e; subst e; rw [f2]; simp [isGrey]
    · exact Iff.rfl
  · refine pres h2 (fun c hc => (hw c).1 hc) (fun y hy hr hwy => ?_) (fun e y he hy hr hwy => ?_) (fun y hy hr hwy => .inl ?_)
    · rcases hy with e | ⟨e, h3, h4, h5⟩ | e
      · exact .inl e
      · refine .inr (.inl ⟨e, by rw [hl]; exact h3, ?_⟩)
        have hne : e ≠ d := fun e1 => by subst e1; rw [f2] at h4; cases h4
        rw [at_, if_neg hne]; exact ⟨h4, h5⟩
      · exact .inr (.inr e)
    · left
      have hne : e ≠ d := fun e1 => by subst e1; unfold wh at he; rw [f1] at he; cases he
      exact ⟨(hw e).2 he, by rw [at_, if_neg hne]; exact hy⟩
    · rcases hy with e | ⟨e, h3, h4, h5⟩ | e
      · exact .inl e
      · rw [at_] at h4 h5
        split at h5
        · exact hx y h5 hr ((hw _).1 hwy)
        · rename_i hne
          rw [if_neg hne] at h4
          exact .inr (.inl ⟨e, by rw [hl] at h3; exact h3, h4, h5⟩)
      · exact .inr (.inr e)
/-- The first grey cell is black. -/
def blackV (v : Vw) (d : Nat) : Vw := { v with cells := v.cells.set d { cel v d with c := 2 }, grey := v.grey.drop 1 }
theorem black_ok {v : Vw} {d : Nat} {g : List Int} (hm : MV v) (h2 : K2 v) (hg : v.grey = (d : Int) :: g) (hx : ∀ y, y = (cel v d).a ∨ y = (cel v d).b → isRef y = true → ¬ wh v (cl y)) : MV (blackV v d) ∧ K2 (blackV v d) ∧ ∀ i, wh (blackV v d) i ↔ wh v i := by
  have hd : d < v.cells.length := by have := hm.gin d (by rw [hg]; simp); omega
  have hgd : isGrey (cel v d) = true := (hm.gs d hd).1 (by rw [hg]; simp)
  have hl : (blackV v d).cells.length = v.cells.length := List.length_set
  have at_ : ∀ i, cel (blackV v d) i = if i = d then { cel v d with c := 2 } else cel v i := fun i => getD_setZ _ _ _ _ hd
  have hgr : (blackV v d).grey = g := by show v.grey.drop 1 = g; rw [hg]; rfl
  have hnd := hm.nd
  rw [hg, List.nodup_cons] at hnd
  have hw : ∀ i, wh (blackV v d) i ↔ wh v i := fun i => by
    unfold wh
    rw [at_]
    split
    · rename_i e; subst e
      unfold isGrey at hgd; simp at hgd
      simp [whiteC, hgd]
    · exact Iff.rfl
  refine ⟨⟨hm.ph, by rw [hl]; exact hm.sw, hm.laid, fun y hy => by rw [hl]; exact hm.globals y hy, fun i hi => ?_, fun c hc => ?_, by rw [hgr]; exact hnd.2, fun i hi => ?_, fun l hl2 y hy => by rw [hl]; exact hm.roots l hl2 y hy⟩, ?_, hw⟩
  · rw [hl] at hi ⊢
    have h0 := hm.cells i hi
    rw [at_]
    split
    · rename_i e; subst e
      unfold cellOk at h0 ⊢
      simp only [Bool.and_eq_true, Bool.not_eq_true', decide_eq_false_iff_not] at h0 ⊢
      exact ⟨h0.1, by omega, h0.2.2⟩
    · exact h0
  · rw [hl]; rw [hgr] at hc; exact hm.gin c (by rw [hg]; simp [hc])
  · rw [hl] at hi
    rw [hgr, at_]
    have h0 := hm.gs i hi
    rw [hg] at h0
    split
    · rename_i e; subst e
      constructor
      · intro h; exact absurd h hnd.1
      · intro h; simp [isGrey] at h
    · rename_i hne
      rw [← h0]
      simp only [List.mem_cons]
      constructor
      · exact fun h => .inr h
      · rintro (h | h)
        · exact absurd (by omega : i = d) hne
        · exact h
  · refine pres h2 (fun c hc => (hw c).1 hc) (fun y hy hr hwy => ?_) (fun e y he hy hr hwy => ?_) (fun y hy hr hwy => .inl ?_)
    · rcases hy with e | ⟨e, h3, h4, h5⟩ | e
      · exact .inl e
      · by_cases hne : e = d
        · subst hne; exact absurd ((hw _).1 hwy) (hx y h5 hr)
        · refine .inr (.inl ⟨e, by rw [hl]; exact h3, ?_⟩)
          rw [at_, if_neg hne]; exact ⟨h4, h5⟩
      · exact .inr (.inr e)
    · left
      have hne : e ≠ d := fun e1 => by subst e1; have := (white_not he).1; rw [hgd] at this; cases this
      exact ⟨(hw e).2 he, by rw [at_, if_neg hne]; exact hy⟩
    · rcases hy with e | ⟨e, h3, h4, h5⟩ | e
      · exact .inl e
      · by_cases hne : e = d
        · subst hne
          rw [at_, if_pos rfl] at h5
          exact absurd ((hw _).1 hwy) (hx y h5 hr)
        · rw [at_, if_neg hne] at h4 h5
          exact .inr (.inl ⟨e, by rw [hl] at h3; exact h3, h4, h5⟩)
      · exact .inr (.inr e)
end Go.Proofs.YtlhhcocdhkbdnaaDoor.Kp

set_option linter.unusedVariables false
set_option linter.unusedSimpArgs false
namespace Go.Proofs.YtlhhcocdhkbdnaaDoor.Kp
open Go.Proofs.YtlhhcocdhkbdnaaDoor.Wd Go.Proofs.YtlhhcocdhkbdnaaDoor.Gp Go.Proofs.YtlhhcocdhkbdnaaDoor.Bp
def pickI (c : Int) : Int := if c < 0 then -(c + 1) else c
def pickN (c : Int) (n : Nat) : Nat := (pickI c % (n : Int)).toNat
theorem pick_nn (c : Int) : 0 ≤ pickI c := by unfold pickI; split <;> omega
theorem pick_cast (c : Int) (n : Nat) (hn : 0 < n) : ((pickN c n : Nat) : Int) = pickI c % n ∧ pickN c n < n := by
  have h1 := Int.emod_nonneg (pickI c) (show (n : Int) ≠ 0 by omega)
  have h2 := Int.emod_lt_of_pos (pickI c) (show (0 : Int) < n by omega)
  unfold pickN
  omega
theorem pick_lt (c : Int) {n : Nat} (hn : 0 < n) : pickN c n < n := (pick_cast c n hn).2
theorem refW_ok (c : Nat) (h : c ≤ 2147483647) : isRef (refW c) = true ∧ cellN (refW c) = c ∧ ofOk (refW c) = true ∧ Gp.u64 (refW c) := by
  have hm : mkOk 8 (c : Int) = true := by
    unfold mkOk okT okN lo hi
    simp; omega
  obtain ⟨h1, h2, h3⟩ := of_mk 8 c hm
  have hT : ofT (mkW 8 c) = 8 := by unfold ofT; rw [if_pos h1]; exact h2
  have hr : isRef (mkW 8 c) = true := by unfold isRef; rw [hT]; rfl
  have hu : Gp.u64 (mkW 8 c) := by unfold mkW Gp.u64; rw [if_pos hm]; omega
  unfold refW
  refine ⟨hr, ?_, h1, hu⟩
  unfold cellN
  rw [if_pos hr]
  unfold ofN
  rw [if_pos h1]; exact h3
/-- What is shaded. -/
theorem shadeL_ok (h : List Cel) (ws : List Int) : (∀ c ∈ shadeL h ws, whiteC (h.getD c z) = true) ∧ (shadeL h ws).Nodup ∧ ∀ x ∈ ws, isRef x = true → whiteC (h.getD (cl x) z) = true → cl x ∈ shadeL h ws := by
  have key : ∀ (ws : List Int) (out : List Nat), (∀ c ∈ out, whiteC (h.getD c z) = true) → out.Nodup → (∀ c ∈ ws.foldl (shade1 h) out, whiteC (h.getD c z) = true) ∧ (ws.foldl (shade1 h) out).Nodup ∧ (∀ c ∈ out, c ∈ ws.foldl (shade1 h) out) ∧ ∀ x ∈ ws, isRef x = true → whiteC (h.getD (cl x) z) = true → cl x ∈ ws.foldl (shade1 h) out := by
    intro ws
    induction ws with
    | nil => exact fun out h1 h2 => ⟨h1, h2, fun c hc => hc, by simp⟩
    | cons x ws ih =>
      intro out h1 h2
      rw [List.foldl_cons]
      have hs : (∀ c ∈ shade1 h out x, whiteC (h.getD c z) = true) ∧ (shade1 h out x).Nodup ∧ (∀ c ∈ out, c ∈ shade1 h out x) ∧ (isRef x = true → whiteC (h.getD (cl x) z) = true → cl x ∈ shade1 h out x) := by
        unfold shade1
        split
        · rename_i hc
          simp only [Bool.and_eq_true, decide_eq_true_eq, Bool.not_eq_true'] at hc
          obtain ⟨c1, c2, c3, c4⟩ := hc
          have c5 : (cellN x).toNat ∉ out := fun hm => by simp [hm] at c4
          refine ⟨fun c hc => ?_, ?_, fun c hc => by simp [hc], fun _ _ => by simp⟩
          · rcases List.mem_append.1 hc with e | e
            · exact h1 c e
            · rw [List.mem_singleton.1 e]; exact c3
          · rw [List.nodup_append]
            exact ⟨h2, by simp, fun a ha b hb => by simp at hb; subst hb; exact fun e => c5 (e ▸ ha)⟩
        · rename_i hc
          refine ⟨h1, h2, fun c hc => hc, fun r1 r2 => ?_⟩
          apply Classical.byContradiction
          intro hn
          apply hc
          have hlt : (cellN x).toNat < h.length := by
            by_cases hi : (cellN x).toNat < h.length
            · exact hi
            · rw [show cl x = (cellN x).toNat from rfl, out_z hi] at r2; simp [whiteC, z] at r2
          simp only [Bool.and_eq_true, decide_eq_true_eq, Bool.not_eq_true']
          refine ⟨r1, hlt, r2, ?_⟩
          simpa using hn
      obtain ⟨g1, g2, g3, g4⟩ := ih (shade1 h out x) hs.1 hs.2.1
      refine ⟨g1, g2, fun c hc => g3 c (hs.2.2.1 c hc), fun y hy r1 r2 => ?_⟩
      rcases List.mem_cons.1 hy with e | e
      · subst e; exact g3 _ (hs.2.2.2 r1 r2)
      · exact g4 y e r1 r2
  obtain ⟨a, b, _, c⟩ := key ws [] (by simp) List.nodup_nil
  exact ⟨a, b, c⟩
theorem sok_of (v : Vw) (ws : List Int) : SOk v (shadeL v.cells ws) := ⟨(shadeL_ok v.cells ws).1, (shadeL_ok v.cells ws).2.1⟩
theorem sok_nil (v : Vw) : SOk v [] := ⟨by simp, List.nodup_nil⟩
theorem store_sok (v : Vw) (sc : Bool) (a b : Int) : SOk v (storeL v.ph sc a b v.cells) := by
  unfold storeL; split
  · split
    · exact sok_of _ _
    · exact sok_of _ _
  · exact sok_nil v
theorem fill_sok (v : Vw) (sc : Bool) (a b : Int) : SOk v (fillL v.ph sc a b v.cells) := by
  unfold fillL; split
  · exact sok_of _ _
  · exact sok_nil v
theorem on_ph {v : Vw} (h : MV v) : onP v.ph = true := by unfold onP; rcases h.ph with e | e <;> rw [e] <;> rfl
/-- The old word's cell is not white behind it, nor, of a lane that is not scanned, the new one's. -/
theorem store_cov {v : Vw} (hm : MV v) (sc : Bool) (a b : Int) : (isRef a = true → ¬ wh (shadeV v (storeL v.ph sc a b v.cells)) (cl a)) ∧ (sc = false → isRef b = true → ¬ wh (shadeV v (storeL v.ph sc a b v.cells)) (cl b)) := by
  have hs := store_sok v sc a b
  refine ⟨fun hr hw => ?_, fun he hr hw => ?_⟩
  · obtain ⟨w1, w2⟩ := (hs.wh _).1 hw
    apply w2
    unfold storeL; rw [if_pos (on_ph hm)]
    split
    · exact (shadeL_ok v.cells [a]).2.2 a (by simp) hr w1
    · exact (shadeL_ok v.cells [a, b]).2.2 a (by simp) hr w1
  · obtain ⟨w1, w2⟩ := (hs.wh _).1 hw
    apply w2
    unfold storeL; rw [if_pos (on_ph hm), he]
    exact (shadeL_ok v.cells [a, b]).2.2 b (by simp) hr w1
theorem fill_cov {v : Vw} (hm : MV v) (sc : Bool) (a b : Int) (he : sc = false) : ∀ y, y = a ∨ y = b → isRef y = true → ¬ wh (shadeV v (fillL v.ph sc a b v.cells)) (cl y) := by
  intro y hy hr hw
  obtain ⟨w1, w2⟩ := ((fill_sok v sc a b).wh _).1 hw
  apply w2
  unfold fillL; rw [on_ph hm, he]
  exact (shadeL_ok v.cells [a, b]).2.2 y (by simpa using hy) hr w1
/-- A view while roots are laid or cells marked, of a size. -/
structure GV (v : Vw) : Prop where
  mv : MV v
  k2 : K2 v
  inr : ∀ x ∈ v.cells, InR x
  ug : ∀ x ∈ v.globals, Gp.u64 x
  ur : ∀ l ∈ v.lanes, ∀ x ∈ l.roots, Gp.u64 x
  nc : v.cells.length ≤ 60
  ng : v.globals.length ≤ 1000
  nl : v.lanes.length ≤ 8
  nr : ∀ l ∈ v.lanes, l.roots.length ≤ 1000
theorem GV.shade {v : Vw} {S : List Nat} (h : GV v) (hs : SOk v S) : GV (shadeV v S) := by
  have hl : (shadeV v S).cells.length = v.cells.length := gray_len _ _
  refine ⟨shade_mv hs h.mv, shade_k2 hs h.mv h.k2, fun x hx => ?_, h.ug, h.ur, by rw [hl]; exact h.nc, h.ng, h.nl, h.nr⟩
  obtain ⟨i, hi, rfl⟩ := mem_getD z hx
  rw [hl] at hi
  have e := hs.at i
  unfold cel at e
  rw [e]
  have := h.inr _ (getD_memD z hi)
  split
  · exact ⟨this.1, this.2.1, by simp, by simp, this.2.2.2.2.1, this.2.2.2.2.2⟩
  · exact this
/-- A word that a lane can take. -/
def i3 : Int := mkW 5 3
theorem i3_ok : isRef i3 = false ∧ (∀ n, isWord i3 n = true) ∧ Gp.u64 i3 := by
  have h1 : isRef i3 = false := by decide
  have h2 : ofOk i3 = true := by decide
  refine ⟨h1, fun n => ?_, by unfold Gp.u64; decide⟩
  unfold isWord; rw [h2, h1]; rfl
def valK (l : Ln) (c : Int) : Int := if pickN c (l.roots.length + 1) = l.roots.length then i3 else l.roots.getD (pickN c (l.roots.length + 1)) 0
theorem val_ok (l : Ln) (c : Int) : valK l c = i3 ∨ valK l c ∈ l.roots := by
  unfold valK
  split
  · exact .inl rfl
  · right
    have := pick_lt c (show 0 < l.roots.length + 1 by omega)
    exact getD_memD 0 (by omega)
def clsK (v : Vw) (l : Ln) : List Nat := (l.roots.filter (fun x => isRef x && nofree (cel v (cl x)))).map cl
def celK (v : Vw) (l : Ln) (c : Int) : Option Nat := if (clsK v l).length = 0 then none else some ((clsK v l).getD (pickN c (clsK v l).length) 0)
theorem cel_ok {v : Vw} {l : Ln} {c : Int} {d : Nat} (h : celK v l c = some d) : ∃ x ∈ l.roots, isRef x = true ∧ cl x = d ∧ nofree (cel v d) = true := by
  unfold celK at h
  split at h
  · cases h
  · simp only [Option.some.injEq] at h
    rename_i hn
    have hm : d ∈ clsK v l := by rw [← h]; exact getD_memD 0 (pick_lt c (by omega))
    unfold clsK at hm
    obtain ⟨x, hx, rfl⟩ := List.mem_map.1 hm
    rw [List.mem_filter, Bool.and_eq_true] at hx
    exact ⟨x, hx.1, hx.2.1, rfl, hx.2.2⟩
def takesK (l : Ln) (x : Int) : Ln := if l.roots.length < 40 then { l with roots := l.roots ++ [x] } else l
theorem takes_mem {l : Ln} {x y : Int} (h : y ∈ (takesK l x).roots) : y ∈ l.roots ∨ y = x := by
  unfold takesK at h; split at h
  · rcases List.mem_append.1 h with e | e
    · exact .inl e
    · exact .inr (List.mem_singleton.1 e)
  · exact .inl h
theorem takes_len (l : Ln) (x : Int) (h : l.roots.length ≤ 1000) : (takesK l x).roots.length ≤ 1000 := by
  unfold takesK; split
  · simp; omega
  · exact h
theorem takes_sc (l : Ln) (x : Int) : (takesK l x).sc = l.sc ∧ (takesK l x).en = l.en := by unfold takesK; split <;> exact ⟨rfl, rfl⟩
theorem nofree_lt {v : Vw} {d : Nat} (h : nofree (cel v d) = true) : d < v.cells.length := by
  by_cases hi : d < v.cells.length
  · exact hi
  · unfold cel at h; rw [out_z hi] at h; simp [nofree, z] at h
/-- A lane that has not ended gets other words. -/
theorem GV.lane {v : Vw} {j : Nat} {l : Ln} (h : GV v) (hj : j < v.lanes.length) (hen : (v.lanes.getD j ln0).en = false) (hr : ∀ x ∈ l.roots, isWord x v.cells.length = true ∧ Gp.u64 x) (hn : l.roots.length ≤ 1000)
    (hk : l.sc = true → ∀ y ∈ l.roots, isRef y = true → wh v (cl y) → Kn v y ∨ Wl v (cl y)) : GV (setL v j l) := by
  obtain ⟨m, k⟩ := lane_ok (l := l) h.mv h.k2 (fun x hx => (hr x hx).1) hk (fun _ e => by rw [hen] at e; cases e)
  refine ⟨m, k, h.inr, h.ug, fun l2 hl2 x hx => ?_, h.nc, h.ng, by simpa [setL] using h.nl, fun l2 hl2 => ?_⟩
  · rcases mem_set_of hl2 with e | e
    · exact h.ur l2 e x hx
    · rw [e] at hx; exact (hr x hx).2
  · rcases mem_set_of hl2 with e | e
    · exact h.nr l2 e
    · rw [e]; exact hn
theorem GV.rootsOk {v : Vw} (h : GV v) {j : Nat} (hj : j < v.lanes.length) : ∀ x ∈ (v.lanes.getD j ln0).roots, isWord x v.cells.length = true ∧ Gp.u64 x := fun x hx => ⟨h.mv.roots _ (getD_memD ln0 hj) x hx, h.ur _ (getD_memD ln0 hj) x hx⟩
theorem GV.takes {v : Vw} {j : Nat} {x : Int} (h : GV v) (hj : j < v.lanes.length) (hen : (v.lanes.getD j ln0).en = false) (hx : isWord x v.cells.length = true ∧ Gp.u64 x) (hk : (v.lanes.getD j ln0).sc = true → isRef x = true → wh v (cl x) → Kn v x ∨ Wl v (cl x)) : GV (setL v j (takesK (v.lanes.getD j ln0) x)) := by
  refine h.lane hj hen (fun y hy => ?_) (takes_len _ _ (h.nr _ (getD_memD ln0 hj))) (fun hs y hy hr hw => ?_)
  · rcases takes_mem hy with e | e
    · exact h.rootsOk hj y e
    · rw [e]; exact hx
  · rw [(takes_sc _ _).1] at hs
    rcases takes_mem hy with e | e
    · exact .inl (.inr (.inr ⟨_, getD_memD ln0 hj, hs, e⟩))
    · rw [e]; rw [e] at hr hw; exact hk hs hr hw
theorem GV.cellOk {v : Vw} (h : GV v) {d : Nat} (hd : nofree (cel v d) = true) (f : Bool) : isWord (fget (cel v d) f) v.cells.length = true ∧ Gp.u64 (fget (cel v d) f) := by
  have hl := nofree_lt hd
  have hin := h.inr _ (getD_memD z hl)
  have hc := h.mv.cells d hl
  unfold Bp.cellOk rightW at hc
  simp only [Bool.and_eq_true, Bool.or_eq_true, beq_iff_eq, List.all_cons, List.all_nil] at hc
  have hk : ¬ (cel v d).k = 0 := by unfold nofree at hd; simpa using hd
  obtain ⟨e1, e2, _⟩ := hc.2.2.resolve_left hk
  unfold fget
  split
  · exact ⟨e2, hin.2.2.2.2.2⟩
  · exact ⟨e1, hin.2.2.2.2.1⟩
end Go.Proofs.YtlhhcocdhkbdnaaDoor.Kp

set_option linter.unusedVariables false
set_option linter.unusedSimpArgs false
namespace Go.Proofs.YtlhhcocdhkbdnaaDoor.Kp
open Go.Proofs.YtlhhcocdhkbdnaaDoor.Wd Go.Proofs.YtlhhcocdhkbdnaaDoor.Gp Go.Proofs.YtlhhcocdhkbdnaaDoor.Bp
/-- A step. -/
structure S5 where
  kd : Int
  who : Int
  a : Int
  b : Int
  c : Int
def odd (b : Int) : Bool := b.tmod 2 != 0
theorem fget_or (x : Cel) (f : Bool) : fget x f = x.a ∨ fget x f = x.b := by unfold fget; split <;> simp
theorem Kn.root {v : Vw} {j : Nat} (hj : j < v.lanes.length) (hs : (v.lanes.getD j ln0).sc = true) {x : Int} (hx : x ∈ (v.lanes.getD j ln0).roots) : Kn v x := .inr (.inr ⟨_, getD_memD ln0 hj, hs, hx⟩)
/-- A lane of a view that is known, or not: what it names. -/
theorem GV.val {v : Vw} (h : GV v) {j : Nat} (hj : j < v.lanes.length) (c : Int) : (isWord (valK (v.lanes.getD j ln0) c) v.cells.length = true ∧ Gp.u64 (valK (v.lanes.getD j ln0) c)) ∧ ((v.lanes.getD j ln0).sc = true → isRef (valK (v.lanes.getD j ln0) c) = true → Kn v (valK (v.lanes.getD j ln0) c)) := by
  rcases val_ok (v.lanes.getD j ln0) c with e | e
  · rw [e]; exact ⟨⟨i3_ok.2.1 _, i3_ok.2.2⟩, fun _ hr => by rw [i3_ok.1] at hr; cases hr⟩
  · exact ⟨h.rootsOk hj _ e, fun hs _ => Kn.root hj hs e⟩
def loadV (v : Vw) (j : Nat) (s : S5) : Vw := match celK v (v.lanes.getD j ln0) s.a with
  | none => v
  | some d => setL v j (takesK (v.lanes.getD j ln0) (fget (cel v d) (odd s.b)))
theorem load_gv {v : Vw} (h : GV v) {j : Nat} (hj : j < v.lanes.length) (hen : (v.lanes.getD j ln0).en = false) (s : S5) : GV (loadV v j s) := by
  unfold loadV
  split
  · exact h
  · rename_i d hd
    obtain ⟨r, hr, hrr, hrd, hnf⟩ := cel_ok hd
    have hdl := nofree_lt hnf
    refine h.takes hj hen (h.cellOk hnf _) (fun hs hx hw => ?_)
    have hok := h.mv.cells d hdl
    unfold cellOk at hok
    simp only [Bool.and_eq_true, Bool.not_eq_true', decide_eq_false_iff_not] at hok
    have hor := fget_or (cel v d) (odd s.b)
    rcases colours (h.inr _ (getD_memD z hdl)) hok.2.1 hnf with e | e | e
    · right
      have hwd := h.k2 r (Kn.root hj hs hr) hrr (by unfold wh; rw [hrd]; exact e)
      rw [hrd] at hwd
      exact .step d _ hwd hor hx hw
    · exact .inr (.src _ (.inr (.inl ⟨d, hdl, e, hor⟩)) hx hw)
    · exact .inl (.inr (.inl ⟨d, hdl, e, hor⟩))
def globV (v : Vw) (j : Nat) (s : S5) : Vw := if 0 < v.globals.length then setL v j (takesK (v.lanes.getD j ln0) (v.globals.getD (pickN s.a v.globals.length) 0)) else v
theorem glob_gv {v : Vw} (h : GV v) {j : Nat} (hj : j < v.lanes.length) (hen : (v.lanes.getD j ln0).en = false) (s : S5) : GV (globV v j s) := by
  unfold globV
  split
  · rename_i h0
    have hm : v.globals.getD (pickN s.a v.globals.length) 0 ∈ v.globals := getD_memD 0 (pick_lt _ h0)
    refine h.takes hj hen ⟨h.mv.globals _ hm, h.ug _ hm⟩ (fun hs hx hw => ?_)
    generalize v.globals.getD (pickN s.a v.globals.length) 0 = x at *
    rw [← List.take_append_drop v.laid.toNat v.globals] at hm
    rcases List.mem_append.1 hm with e | e
    · exact .inl (.inl e)
    · exact .inr (.src _ (.inl e) hx hw)
  · exact h
theorem shade_word {v : Vw} {S : List Nat} (hs : SOk v S) (d : Nat) : (cel (shadeV v S) d).k = (cel v d).k ∧ (cel (shadeV v S) d).a = (cel v d).a ∧ (cel (shadeV v S) d).b = (cel v d).b := by
  rw [hs.at]; split <;> exact ⟨rfl, rfl, rfl⟩
def storeV (v : Vw) (j : Nat) (s : S5) : Vw := match celK v (v.lanes.getD j ln0) s.a with
  | none => v
  | some d => setW (shadeV v (storeL v.ph (v.lanes.getD j ln0).sc (fget (cel v d) (odd s.b)) (valK (v.lanes.getD j ln0) s.c) v.cells)) d (odd s.b) (valK (v.lanes.getD j ln0) s.c)
theorem fset_in {x : Cel} {f : Bool} {y : Int} (h : InR x) (hy : Gp.u64 y) : InR (fset x f y) := by
  obtain ⟨h1, h2, h3, h4, h5, h6⟩ := h
  unfold fset; split
  · exact ⟨h1, h2, h3, h4, h5, hy⟩
  · exact ⟨h1, h2, h3, h4, hy, h6⟩
theorem store_gv {v : Vw} (h : GV v) {j : Nat} (hj : j < v.lanes.length) (s : S5) : GV (storeV v j s) := by
  unfold storeV
  split
  · exact h
  · rename_i d hd
    obtain ⟨r, hr, hrr, hrd, hnf⟩ := cel_ok hd
    have hdl := nofree_lt hnf
    have hv := h.val hj s.c
    have hs := store_sok v (v.lanes.getD j ln0).sc (fget (cel v d) (odd s.b)) (valK (v.lanes.getD j ln0) s.c)
    have hcv := store_cov h.mv (v.lanes.getD j ln0).sc (fget (cel v d) (odd s.b)) (valK (v.lanes.getD j ln0) s.c)
    have h1 := h.shade hs
    generalize hx : valK (v.lanes.getD j ln0) s.c = x at *
    generalize hS : storeL v.ph (v.lanes.getD j ln0).sc (fget (cel v d) (odd s.b)) x v.cells = S at *
    have hl : (shadeV v S).cells.length = v.cells.length := gray_len _ _
    have hw3 := shade_word hs d
    have hfg : fget (cel (shadeV v S) d) (odd s.b) = fget (cel v d) (odd s.b) := by unfold fget; rw [hw3.2.1, hw3.2.2]
    obtain ⟨m, k, _⟩ := store_ok (f := odd s.b) (x := x) h1.mv h1.k2 (by rw [hl]; exact hdl) (by rw [hl]; exact hv.1.1) (by rw [hfg]; exact hcv.1) (fun _ hxr hxw => by
      cases hsc : (v.lanes.getD j ln0).sc
      · exact absurd hxw (hcv.2 hsc hxr)
      · rcases hv.2 hsc hxr with e | e | e
        · exact .inl e
        · obtain ⟨e, e1, e2, e3⟩ := e
          refine .inr (.inl ⟨e, by rw [hl]; exact e1, ?_⟩)
          have : e ∉ S := fun hm => by have := (white_not (hs.w e hm)).2; rw [e2] at this; cases this
          rw [hs.at, if_neg this]; exact ⟨e2, e3⟩
        · exact .inr (.inr e))
    refine ⟨m, k, fun y hy => ?_, h1.ug, h1.ur, by show (List.set _ _ _).length ≤ 60; rw [List.length_set]; exact h1.nc, h1.ng, h1.nl, h1.nr⟩
    rcases List.mem_or_eq_of_mem_set hy with e | e
    · exact h1.inr y e
    · rw [e]; exact fset_in (h1.inr _ (getD_memD z (by rw [hl]; exact hdl))) hv.1.2
def layV (v : Vw) (j : Nat) (s : S5) : Vw := if 0 < v.globals.length then
    setG (shadeV v (storeL v.ph (v.lanes.getD j ln0).sc (v.globals.getD (pickN s.a v.globals.length) 0) (valK (v.lanes.getD j ln0) s.c) v.cells)) (pickN s.a v.globals.length) (valK (v.lanes.getD j ln0) s.c)
  else v
theorem kn_shade {v : Vw} {S : List Nat} (hs : SOk v S) {x : Int} (h : Kn v x) : Kn (shadeV v S) x := by
  rcases h with e | ⟨e, e1, e2, e3⟩ | e
  · exact .inl e
  · refine .inr (.inl ⟨e, by rw [show (shadeV v S).cells.length = v.cells.length from gray_len _ _]; exact e1, ?_⟩)
    have : e ∉ S := fun hm => by have := (white_not (hs.w e hm)).2; rw [e2] at this; cases this
    rw [hs.at, if_neg this]; exact ⟨e2, e3⟩
  · exact .inr (.inr e)
theorem lay_gv {v : Vw} (h : GV v) {j : Nat} (hj : j < v.lanes.length) (s : S5) : GV (layV v j s) := by
  unfold layV
  split
  · have hv := h.val hj s.c
    have hs := store_sok v (v.lanes.getD j ln0).sc (v.globals.getD (pickN s.a v.globals.length) 0) (valK (v.lanes.getD j ln0) s.c)
    have hcv := store_cov h.mv (v.lanes.getD j ln0).sc (v.globals.getD (pickN s.a v.globals.length) 0) (valK (v.lanes.getD j ln0) s.c)
    have h1 := h.shade hs
    generalize hx : valK (v.lanes.getD j ln0) s.c = x at *
    generalize hS : storeL v.ph (v.lanes.getD j ln0).sc (v.globals.getD (pickN s.a v.globals.length) 0) x v.cells = S at *
    have hl : (shadeV v S).cells.length = v.cells.length := gray_len _ _
    obtain ⟨m, k⟩ := lay_ok (k := pickN s.a v.globals.length) (x := x) h1.mv h1.k2 (by rw [hl]; exact hv.1.1) hcv.1 (fun hxr hxw => by
      cases hsc : (v.lanes.getD j ln0).sc
      · exact absurd hxw (hcv.2 hsc hxr)
      · exact kn_shade hs (hv.2 hsc hxr))
    refine ⟨m, k, h1.inr, fun y hy => ?_, h1.ur, h1.nc, by show (List.set _ _ _).length ≤ 1000; rw [List.length_set]; exact h1.ng, h1.nl, h1.nr⟩
    rcases List.mem_or_eq_of_mem_set hy with e | e
    · exact h1.ug y e
    · rw [e]; exact hv.1.2
  · exact h
def freeK (v : Vw) : Option Nat := (List.range v.cells.length).find? (fun i => (cel v i).k == 0)
def fillS (v : Vw) (j : Nat) (s : S5) : Vw := match freeK v with
  | none => v
  | some d => setL (fillV (shadeV v (fillL v.ph (v.lanes.getD j ln0).sc (valK (v.lanes.getD j ln0) s.a) (valK (v.lanes.getD j ln0) s.b) v.cells)) d (1 + (pickN s.c 3 : Nat)) (valK (v.lanes.getD j ln0) s.a) (valK (v.lanes.getD j ln0) s.b)) j (takesK (v.lanes.getD j ln0) (refW d))
theorem fill_gv {v : Vw} (h : GV v) {j : Nat} (hj : j < v.lanes.length) (hen : (v.lanes.getD j ln0).en = false) (s : S5) : GV (fillS v j s) := by
  unfold fillS
  split
  · exact h
  · rename_i d hd
    have hdl : d < v.cells.length := List.mem_range.1 (List.mem_of_find?_eq_some hd)
    have hdk : (cel v d).k = 0 := by have := List.find?_some hd; simpa using this
    have ha := h.val hj s.a
    have hb := h.val hj s.b
    have hs := fill_sok v (v.lanes.getD j ln0).sc (valK (v.lanes.getD j ln0) s.a) (valK (v.lanes.getD j ln0) s.b)
    have hcv := fill_cov h.mv (v.lanes.getD j ln0).sc (valK (v.lanes.getD j ln0) s.a) (valK (v.lanes.getD j ln0) s.b)
    have h1 := h.shade hs
    generalize valK (v.lanes.getD j ln0) s.a = x at *
    generalize valK (v.lanes.getD j ln0) s.b = y at *
    generalize fillL v.ph (v.lanes.getD j ln0).sc x y v.cells = S at *
    have hl : (shadeV v S).cells.length = v.cells.length := gray_len _ _
    have hp := pick_lt s.c (show 0 < 3 by omega)
    obtain ⟨m, k, hw⟩ := fill_ok (k := 1 + (pickN s.c 3 : Nat)) (a := x) (b := y) h1.mv h1.k2 (by rw [hl]; exact hdl) (by rw [(shade_word hs d).1]; exact hdk) (by omega) (by rw [hl]; exact ha.1.1) (by rw [hl]; exact hb.1.1) (fun u hu hur huw => by
      cases hsc : (v.lanes.getD j ln0).sc
      · exact absurd huw (hcv hsc u hu hur)
      · rcases hu with e | e
        · rw [e]; rw [e] at hur; exact kn_shade hs (ha.2 hsc hur)
        · rw [e]; rw [e] at hur; exact kn_shade hs (hb.2 hsc hur))
    have h2 : GV (fillV (shadeV v S) d (1 + (pickN s.c 3 : Nat)) x y) := by
      refine ⟨m, k, fun u hu => ?_, h1.ug, h1.ur, by show (List.set _ _ _).length ≤ 60; rw [List.length_set]; exact h1.nc, h1.ng, h1.nl, h1.nr⟩
      rcases List.mem_or_eq_of_mem_set hu with e | e
      · exact h1.inr u e
      · rw [e]; exact ⟨by show (0 : Int) ≤ 1 + (pickN s.c 3 : Nat); omega, by show 1 + ((pickN s.c 3 : Nat) : Int) < 256; omega, by simp, by simp, ha.1.2, hb.1.2⟩
    have hl2 : (fillV (shadeV v S) d (1 + (pickN s.c 3 : Nat)) x y).cells.length = v.cells.length := by show (List.set _ _ _).length = _; rw [List.length_set]; exact hl
    obtain ⟨r1, r2, r3, r4⟩ := refW_ok d (by have := h.nc; omega)
    refine GV.takes (j := j) h2 hj hen ⟨?_, r4⟩ (fun _ _ hwx => ?_)
    · rw [hl2]; unfold isWord; rw [r3, r1, r2]; simp; omega
    · exfalso
      have hcl : cl (refW d) = d := by unfold cl; rw [r2]; simp
      rw [hcl, hw, hs.wh] at hwx
      have := hwx.1
      unfold wh whiteC at this; rw [hdk] at this; simp at this
def dropV (v : Vw) (j : Nat) (s : S5) : Vw := if 0 < (v.lanes.getD j ln0).roots.length then
    setL v j { v.lanes.getD j ln0 with roots := (v.lanes.getD j ln0).roots.take (pickN s.a (v.lanes.getD j ln0).roots.length) ++ (v.lanes.getD j ln0).roots.drop (pickN s.a (v.lanes.getD j ln0).roots.length + 1) }
  else v
theorem drop_gv {v : Vw} (h : GV v) {j : Nat} (hj : j < v.lanes.length) (hen : (v.lanes.getD j ln0).en = false) (s : S5) : GV (dropV v j s) := by
  unfold dropV
  split
  · generalize pickN s.a (v.lanes.getD j ln0).roots.length = k
    have hsub : ∀ x, x ∈ (v.lanes.getD j ln0).roots.take k ++ (v.lanes.getD j ln0).roots.drop (k + 1) → x ∈ (v.lanes.getD j ln0).roots := fun x hx => by
      rcases List.mem_append.1 hx with e | e
      · exact List.mem_of_mem_take e
      · exact List.mem_of_mem_drop e
    refine h.lane hj hen (fun x hx => h.rootsOk hj x (hsub x hx)) ?_ (fun hs y hy _ _ => .inl (Kn.root hj hs (hsub y hy)))
    have := h.nr _ (getD_memD ln0 hj)
    simp only [List.length_append, List.length_take, List.length_drop]
    omega
  · exact h
def endV (v : Vw) (j : Nat) (s : S5) : Vw := setL v j ⟨[valK (v.lanes.getD j ln0) s.a], (v.lanes.getD j ln0).sc, true⟩
theorem end_gv {v : Vw} (h : GV v) {j : Nat} (hj : j < v.lanes.length) (hen : (v.lanes.getD j ln0).en = false) (s : S5) : GV (endV v j s) := by
  have hv := h.val hj s.a
  refine h.lane hj hen (fun x hx => ?_) (by simp) (fun hs y hy hr _ => ?_)
  · rw [List.mem_singleton.1 hx]; exact hv.1
  · rw [List.mem_singleton.1 hy]; rw [List.mem_singleton.1 hy] at hr; exact .inl (hv.2 hs hr)
def joinV (v : Vw) (j : Nat) (s : S5) : Vw :=
  if (v.lanes.getD (pickN s.a v.lanes.length) ln0).en = true ∧ 0 < (v.lanes.getD (pickN s.a v.lanes.length) ln0).roots.length then
    setL v j (takesK (v.lanes.getD j ln0) ((v.lanes.getD (pickN s.a v.lanes.length) ln0).roots.getD (pickN s.b (v.lanes.getD (pickN s.a v.lanes.length) ln0).roots.length) 0))
  else v
theorem join_gv {v : Vw} (h : GV v) {j : Nat} (hj : j < v.lanes.length) (hen : (v.lanes.getD j ln0).en = false) (s : S5) : GV (joinV v j s) := by
  unfold joinV
  split
  · rename_i hc
    have hp := pick_lt s.a (show 0 < v.lanes.length by omega)
    generalize pickN s.a v.lanes.length = i at *
    have hm : (v.lanes.getD i ln0).roots.getD (pickN s.b (v.lanes.getD i ln0).roots.length) 0 ∈ (v.lanes.getD i ln0).roots := getD_memD 0 (pick_lt _ hc.2)
    generalize (v.lanes.getD i ln0).roots.getD (pickN s.b (v.lanes.getD i ln0).roots.length) 0 = x at *
    refine h.takes hj hen (h.rootsOk hp x hm) (fun hs hx hw => ?_)
    cases hsc : (v.lanes.getD i ln0).sc
    · exact .inr (.src _ (.inr (.inr ⟨_, getD_memD ln0 hp, hsc, hc.1, hm⟩)) hx hw)
    · exact .inl (Kn.root hp hsc hm)
  · exact h
def laneS (v : Vw) (j : Nat) (s : S5) : Vw :=
  if s.kd = 1 then loadV v j s else if s.kd = 2 then globV v j s else if s.kd = 3 then storeV v j s else if s.kd = 4 then layV v j s else if s.kd = 5 then fillS v j s
  else if s.kd = 6 then dropV v j s else if s.kd = 7 then endV v j s else if s.kd = 9 then joinV v j s else v
theorem laneS_gv {v : Vw} (h : GV v) {j : Nat} (hj : j < v.lanes.length) (hen : (v.lanes.getD j ln0).en = false) (s : S5) : GV (laneS v j s) := by
  unfold laneS
  split
  · exact load_gv h hj hen s
  split
  · exact glob_gv h hj hen s
  split
  · exact store_gv h hj s
  split
  · exact lay_gv h hj s
  split
  · exact fill_gv h hj hen s
  split
  · exact drop_gv h hj hen s
  split
  · exact end_gv h hj hen s
  split
  · exact join_gv h hj hen s
  exact h
def spawnV (v : Vw) (j : Nat) (s : S5) : Vw := if v.lanes.length < 8 then addL v ⟨[valK (v.lanes.getD j ln0) s.a, valK (v.lanes.getD j ln0) s.b], (v.lanes.getD j ln0).sc, false⟩ else v
theorem spawn_gv {v : Vw} (h : GV v) {j : Nat} (hj : j < v.lanes.length) (s : S5) : GV (spawnV v j s) := by
  unfold spawnV
  split
  · have ha := h.val hj s.a
    have hb := h.val hj s.b
    generalize valK (v.lanes.getD j ln0) s.a = x at *
    generalize valK (v.lanes.getD j ln0) s.b = y at *
    have hr : ∀ u ∈ [x, y], (isWord u v.cells.length = true ∧ Gp.u64 u) ∧ ((v.lanes.getD j ln0).sc = true → isRef u = true → Kn v u) := fun u hu => by
      simp at hu
      rcases hu with e | e <;> subst e
      · exact ha
      · exact hb
    obtain ⟨m, k⟩ := add_ok (l := ⟨[x, y], (v.lanes.getD j ln0).sc, false⟩) h.mv h.k2 (fun u hu => (hr u hu).1.1) (fun hs u hu hru _ => (hr u hu).2 hs hru)
    refine ⟨m, k, h.inr, h.ug, fun l hl u hu => ?_, h.nc, h.ng, by simp [addL]; omega, fun l hl => ?_⟩
    · rcases List.mem_append.1 hl with e | e
      · exact h.ur l e u hu
      · rw [List.mem_singleton.1 e] at hu; exact (hr u hu).1.2
    · rcases List.mem_append.1 hl with e | e
      · exact h.nr l e
      · rw [List.mem_singleton.1 e]; simp
  · exact h
end Go.Proofs.YtlhhcocdhkbdnaaDoor.Kp

set_option linter.unusedVariables false
set_option linter.unusedSimpArgs false
namespace Go.Proofs.YtlhhcocdhkbdnaaDoor.Kp
open Go.Proofs.YtlhhcocdhkbdnaaDoor.Wd Go.Proofs.YtlhhcocdhkbdnaaDoor.Gp Go.Proofs.YtlhhcocdhkbdnaaDoor.Bp
def rootV (v : Vw) : Vw := if v.laid < v.globals.length then shadeV (laidV v) (storeL v.ph false (v.globals.getD v.laid.toNat 0) (v.globals.getD v.laid.toNat 0) v.cells) else v
theorem root_gv {v : Vw} (h : GV v) : GV (rootV v) := by
  unfold rootV
  split
  · rename_i hl
    have hs := store_sok v false (v.globals.getD v.laid.toNat 0) (v.globals.getD v.laid.toNat 0)
    have hcv := store_cov h.mv false (v.globals.getD v.laid.toNat 0) (v.globals.getD v.laid.toNat 0)
    have h1 := h.shade hs
    generalize storeL v.ph false (v.globals.getD v.laid.toNat 0) (v.globals.getD v.laid.toNat 0) v.cells = S at *
    obtain ⟨m, k⟩ := laid_ok h1.mv h1.k2 hl hcv.1
    exact ⟨m, k, h1.inr, h1.ug, h1.ur, h1.nc, h1.ng, h1.nl, h1.nr⟩
  · exact h
/-- Words are shaded, one after another. -/
def scanK (v : Vw) : List Int → Vw
  | [] => v
  | r :: rs => scanK (shadeV v (storeL v.ph false r r v.cells)) rs
theorem scanK_set : ∀ (rs : List Int) (v : Vw) (j : Nat) (l : Ln), scanK (setL v j l) rs = setL (scanK v rs) j l
  | [], v, j, l => rfl
  | r :: rs, v, j, l => scanK_set rs (shadeV v (storeL v.ph false r r v.cells)) j l
theorem scanK_same : ∀ (rs : List Int) (v : Vw), (scanK v rs).lanes = v.lanes ∧ (scanK v rs).globals = v.globals ∧ (scanK v rs).laid = v.laid ∧ (scanK v rs).cells.length = v.cells.length ∧ (scanK v rs).ph = v.ph
  | [], v => ⟨rfl, rfl, rfl, rfl, rfl⟩
  | r :: rs, v => by
    obtain ⟨a, b, c, d, e⟩ := scanK_same rs (shadeV v (storeL v.ph false r r v.cells))
    exact ⟨a, b, c, d.trans (gray_len _ _), e⟩
theorem scanK_gv : ∀ (rs : List Int) {v : Vw}, GV v → GV (scanK v rs) ∧ (∀ i, wh (scanK v rs) i → wh v i) ∧ ∀ r ∈ rs, isRef r = true → ¬ wh (scanK v rs) (cl r)
  | [], v, h => ⟨h, fun _ hi => hi, by simp⟩
  | r :: rs, v, h => by
    have hs := store_sok v false r r
    have hcv := store_cov h.mv false r r
    obtain ⟨a, b, c⟩ := scanK_gv rs (h.shade hs)
    refine ⟨a, fun i hi => ((hs.wh i).1 (b i hi)).1, fun x hx hr hw => ?_⟩
    rcases List.mem_cons.1 hx with e | e
    · subst e; exact hcv.1 hr (b _ hw)
    · exact c x e hr hw
def scanV (v : Vw) (j : Nat) : Vw := scanK (setL v j { v.lanes.getD j ln0 with sc := true }) (v.lanes.getD j ln0).roots
theorem scan_gv {v : Vw} (h : GV v) {j : Nat} (hj : j < v.lanes.length) : GV (scanV v j) := by
  unfold scanV
  rw [scanK_set]
  obtain ⟨h1, h2, h3⟩ := scanK_gv (v.lanes.getD j ln0).roots h
  obtain ⟨e1, e2, e3, e4, e5⟩ := scanK_same (v.lanes.getD j ln0).roots v
  generalize scanK v (v.lanes.getD j ln0).roots = v1 at *
  have hr := h.rootsOk hj
  have hn := h.nr _ (getD_memD ln0 hj)
  rw [← e1] at hr hn h3 ⊢
  obtain ⟨m, k⟩ := lane_ok (j := j) (l := { v1.lanes.getD j ln0 with sc := true }) h1.mv h1.k2 (fun x hx => by rw [e4]; exact (hr x hx).1) (fun _ y hy hry hw => absurd hw (h3 y hy hry)) (fun _ _ y hy hry hw => absurd hw (h3 y hy hry))
  refine ⟨m, k, h1.inr, h1.ug, fun l2 hl2 x hx => ?_, h1.nc, h1.ng, by simpa [setL] using h1.nl, fun l2 hl2 => ?_⟩
  · rcases mem_set_of hl2 with e | e
    · exact h1.ur l2 e x hx
    · rw [e] at hx; exact (hr x hx).2
  · rcases mem_set_of hl2 with e | e
    · exact h1.nr l2 e
    · rw [e]; exact hn
theorem gray_comm : ∀ (S : List Nat) (h : List Cel) (d : Nat) (y : Cel), d ∉ S → grayC (h.set d y) S = (grayC h S).set d y
  | [], h, d, y, _ => rfl
  | c :: S, h, d, y, hd => by
    have hcd : c ≠ d := fun e => hd (by simp [e])
    have e : ∀ g : List Cel, grayC g (c :: S) = grayC (g.set c { g.getD c z with c := 1 }) S := fun g => by simp [grayC]
    rw [e, e, ← gray_comm S _ d y (fun hm => hd (by simp [hm])), List.set_comm _ _ (Ne.symm hcd)]
    have : (h.set d y).getD c z = h.getD c z := by
      rw [List.getD_eq_getElem?_getD, List.getElem?_set_ne (Ne.symm hcd), ← List.getD_eq_getElem?_getD]
    rw [this]
def intoS (v : Vw) (d : Nat) : List Nat := storeL v.ph false (cel v d).a (cel v d).b (blackV v d).cells
def intoV (v : Vw) : Vw := match v.grey with
  | [] => v
  | c :: _ => shadeV (blackV v c.toNat) (intoS v c.toNat)
theorem black_wh {v : Vw} {d : Nat} (hd : d < v.cells.length) (hg : isGrey (cel v d) = true) (i : Nat) : wh (blackV v d) i ↔ wh v i := by
  have e : cel (blackV v d) i = if i = d then { cel v d with c := 2 } else cel v i := getD_setZ _ _ _ _ hd
  unfold wh
  rw [e]
  split
  · rename_i e1; subst e1
    unfold isGrey at hg; simp at hg
    simp [whiteC, hg]
  · exact Iff.rfl
theorem into_eq {v : Vw} (h : GV v) {c : Int} {g : List Int} (hg : v.grey = c :: g) : c = (c.toNat : Int) ∧ c.toNat < v.cells.length ∧ isGrey (cel v c.toNat) = true ∧ SOk v (intoS v c.toNat) ∧ c.toNat ∉ intoS v c.toNat ∧ intoV v = blackV (shadeV v (intoS v c.toNat)) c.toNat := by
  have hin := h.mv.gin c (by rw [hg]; simp)
  have hc : c = (c.toNat : Int) := by omega
  have hd : c.toNat < v.cells.length := by omega
  have hgd : isGrey (cel v c.toNat) = true := (h.mv.gs _ hd).1 (by rw [hg, ← hc]; simp)
  have e0 : intoV v = shadeV (blackV v c.toNat) (intoS v c.toNat) := by unfold intoV; rw [hg]
  have hs0 : SOk (blackV v c.toNat) (intoS v c.toNat) := store_sok (blackV v c.toNat) false (cel v c.toNat).a (cel v c.toNat).b
  have hs : SOk v (intoS v c.toNat) := ⟨fun i hi => (black_wh hd hgd i).1 (hs0.w i hi), hs0.nd⟩
  have hnd : c.toNat ∉ intoS v c.toNat := fun hm => by have := (white_not (hs.w _ hm)).1; rw [hgd] at this; cases this
  refine ⟨hc, hd, hgd, hs, hnd, ?_⟩
  rw [e0]
  have e1 : cel (shadeV v (intoS v c.toNat)) c.toNat = cel v c.toNat := by rw [hs.at, if_neg hnd]
  unfold blackV
  rw [e1]
  unfold shadeV
  simp only [gray_comm _ _ _ _ hnd]
  rw [hg]
  rfl
theorem into_gv {v : Vw} (h : GV v) : GV (intoV v) := by
  cases hg : v.grey with
  | nil => unfold intoV; rw [hg]; exact h
  | cons c g =>
    obtain ⟨hc, hd, hgd, hs, hnd, e⟩ := into_eq h hg
    rw [e]
    have hcov : ∀ y, y = (cel v c.toNat).a ∨ y = (cel v c.toNat).b → isRef y = true → wh v (cl y) → cl y ∈ intoS v c.toNat := fun y hy hr hw => by
      unfold intoS storeL
      rw [if_pos (on_ph h.mv)]
      exact (shadeL_ok (blackV v c.toNat).cells [(cel v c.toNat).a, (cel v c.toNat).b]).2.2 y (by simpa using hy) hr ((black_wh hd hgd _).2 hw)
    generalize intoS v c.toNat = S at *
    have h1 := h.shade hs
    have e1 : cel (shadeV v S) c.toNat = cel v c.toNat := by rw [hs.at, if_neg hnd]
    obtain ⟨m, k, _⟩ := black_ok (d := c.toNat) (g := g ++ S.map Int.ofNat) h1.mv h1.k2 (by show v.grey ++ _ = _; rw [hg, ← hc]; rfl) (fun y hy hr hw => by
      rw [e1] at hy
      obtain ⟨w1, w2⟩ := (hs.wh _).1 hw
      exact w2 (hcov y hy hr w1))
    refine ⟨m, k, fun u hu => ?_, h1.ug, h1.ur, by show (List.set _ _ _).length ≤ 60; rw [List.length_set]; exact h1.nc, h1.ng, h1.nl, h1.nr⟩
    rcases List.mem_or_eq_of_mem_set hu with e | e
    · exact h1.inr u e
    · have := h1.inr _ (getD_memD z (show c.toNat < (shadeV v S).cells.length by rw [show (shadeV v S).cells.length = v.cells.length from gray_len _ _]; exact hd))
      rw [e]; exact ⟨this.1, this.2.1, by simp, by simp, this.2.2.2.2.1, this.2.2.2.2.2⟩
def collectS (v : Vw) (s : S5) : Vw := if s.kd = 10 then rootV v else if s.kd = 11 then (if 0 < v.lanes.length then scanV v (pickN s.who v.lanes.length) else v) else if s.kd = 12 then intoV v else v
def stepS (v : Vw) (s : S5) : Vw := if 10 ≤ s.kd then collectS v s else if v.lanes.length = 0 then v else if (v.lanes.getD (pickN s.who v.lanes.length) ln0).en = true then v
  else if s.kd = 8 then spawnV v (pickN s.who v.lanes.length) s else laneS v (pickN s.who v.lanes.length) s
theorem collect_gv {v : Vw} (h : GV v) (s : S5) : GV (collectS v s) := by
  unfold collectS
  split
  · exact root_gv h
  split
  · split
    · exact scan_gv h (pick_lt _ (by assumption))
    · exact h
  split
  · exact into_gv h
  exact h
/-- EVERY STEP KEEPS THE RULE. -/
theorem step_gv {v : Vw} (h : GV v) (s : S5) : GV (stepS v s) := by
  unfold stepS
  split
  · exact collect_gv h s
  split
  · exact h
  rename_i hn
  have hj := pick_lt s.who (show 0 < v.lanes.length by omega)
  split
  · exact h
  rename_i hen
  have hen' : (v.lanes.getD (pickN s.who v.lanes.length) ln0).en = false := by simpa using hen
  split
  · exact spawn_gv h hj s
  · exact laneS_gv h hj hen' s
/-- Cells that are not black. -/
def nb (l : List Cel) : Nat := l.countP (fun x => x.c != 2)
theorem nb_le (l : List Cel) : nb l ≤ l.length := List.countP_le_length
theorem nb_set {l : List Cel} {d : Nat} (hd : d < l.length) (y : Cel) : nb (l.set d y) + (if (l.getD d z).c != 2 then 1 else 0) = nb l + (if y.c != 2 then 1 else 0) := by
  unfold nb
  have hg : l.getD d z = l[d] := by simp [List.getD_eq_getElem?_getD, hd]
  rw [hg]
  induction l generalizing d with
  | nil => simp at hd
  | cons x l ih =>
    cases d with
    | zero => simp only [List.set_cons_zero, List.countP_cons, List.getElem_cons_zero]; omega
    | succ d =>
      have := ih (d := d) (by simpa using hd) (by simp [List.getD_eq_getElem?_getD, show d < l.length by simpa using hd])
      simp only [List.set_cons_succ, List.countP_cons, List.getElem_cons_succ]
      omega
theorem nb_gray : ∀ (S : List Nat) (h : List Cel), (∀ c ∈ S, c < h.length ∧ (h.getD c z).c ≠ 2) → nb (grayC h S) = nb h
  | [], h, _ => rfl
  | c :: S, h, hS => by
    have hc := hS c (by simp)
    have e : grayC h (c :: S) = grayC (h.set c { h.getD c z with c := 1 }) S := by simp [grayC]
    rw [e, nb_gray S _ (fun d hd => by
      have := hS d (by simp [hd])
      refine ⟨by rw [List.length_set]; exact this.1, ?_⟩
      rw [getD_setZ _ _ _ _ hc.1]
      split
      · simp
      · exact this.2)]
    have := nb_set hc.1 { h.getD c z with c := 1 }
    rw [if_pos (by simpa using hc.2), if_pos (by simp)] at this
    omega
theorem into_nb {v : Vw} (h : GV v) (hg : v.grey ≠ []) : nb (intoV v).cells + 1 = nb v.cells := by
  cases hgr : v.grey with
  | nil => exact absurd hgr hg
  | cons c g =>
    obtain ⟨hc, hd, hgd, hs, hnd, e⟩ := into_eq h hgr
    rw [e]
    have e1 : cel (shadeV v (intoS v c.toNat)) c.toNat = cel v c.toNat := by rw [hs.at, if_neg hnd]
    have hl : (shadeV v (intoS v c.toNat)).cells.length = v.cells.length := gray_len _ _
    have h1 : nb (shadeV v (intoS v c.toNat)).cells = nb v.cells := nb_gray _ _ (fun d hdm => ⟨wh_lt (hs.w d hdm), by have := hs.w d hdm; unfold wh whiteC at this; simp at this; have h2 := this.2; unfold cel at *; simp only [List.getD_eq_getElem?_getD] at *; omega⟩)
    have h2 := nb_set (l := (shadeV v (intoS v c.toNat)).cells) (by rw [hl]; exact hd) { cel (shadeV v (intoS v c.toNat)) c.toNat with c := 2 }
    have h3 : ((shadeV v (intoS v c.toNat)).cells.getD c.toNat z).c = 1 := by
      show (cel (shadeV v (intoS v c.toNat)) c.toNat).c = 1
      rw [e1]; unfold isGrey at hgd; simp only [Bool.and_eq_true, beq_iff_eq] at hgd; exact hgd.2
    rw [h3, if_pos (by decide), if_neg (by simp)] at h2
    show nb (List.set _ _ _) + 1 = _
    omega
theorem into_same {v : Vw} : (intoV v).lanes = v.lanes ∧ (intoV v).globals = v.globals ∧ (intoV v).laid = v.laid ∧ (intoV v).cells.length = v.cells.length := by
  unfold intoV
  split
  · exact ⟨rfl, rfl, rfl, rfl⟩
  · exact ⟨rfl, rfl, rfl, (gray_len _ _).trans List.length_set⟩
theorem scan_same (v : Vw) (j : Nat) : (scanV v j).lanes = v.lanes.set j { v.lanes.getD j ln0 with sc := true } ∧ (scanV v j).globals = v.globals ∧ (scanV v j).laid = v.laid ∧ (scanV v j).cells.length = v.cells.length := by
  unfold scanV
  obtain ⟨a, b, c, d, _⟩ := scanK_same (v.lanes.getD j ln0).roots (setL v j { v.lanes.getD j ln0 with sc := true })
  exact ⟨a, b, c, d⟩
theorem root_same (v : Vw) : (rootV v).lanes = v.lanes ∧ (rootV v).globals = v.globals ∧ (rootV v).cells.length = v.cells.length ∧ (rootV v).laid = if v.laid < v.globals.length then v.laid + 1 else v.laid := by
  unfold rootV
  split
  · exact ⟨rfl, rfl, gray_len _ _, rfl⟩
  · exact ⟨rfl, rfl, rfl, rfl⟩
theorem rch_nil (h : List Cel) (cnt : Cel → Bool) : ∀ c, ¬ Rch h cnt [] c := by
  intro c hr
  induction hr with
  | src x hx => cases hx
  | step d x _ _ _ _ _ ih => exact ih
/-- At the collector's end what is reached is black. -/
theorem fin_black {v : Vw} (h : GV v) (hl : v.laid = v.globals.length) (hsc : ∀ l ∈ v.lanes, l.sc = true) (hg : v.grey = []) {i : Nat} (hi : i < v.cells.length) (hk : (cel v i).k ≠ 0) (hlive : (order v.cells (rootsL v)).1.getD i true = true) : (cel v i).c = 2 := by
  have hok := mayV_ok h.mv.may
  have hnf : nofree (cel v i) = true := by unfold nofree; simpa using hk
  have hc := h.mv.cells i hi
  unfold cellOk at hc
  simp only [Bool.and_eq_true, Bool.not_eq_true', decide_eq_false_iff_not] at hc
  rcases colours (h.inr _ (getD_memD z hi)) hc.2.1 hnf with e | e | e
  · exfalso
    have hw : ∀ x ∈ rootsL v, isWord x v.cells.length = true := hok.rootWords
    have hr : Rch v.cells nofree (rootsL v) i := (rea_rch hok hw i hnf).1 ((order_at (hok.may hw) i hi).1 hlive)
    have hb := live_by h.mv hok h.inr h.k2 hr e
    have hs : ∀ x, x ∉ srcL v (fun _ => true) := fun x hx => by
      rcases (sb_mem v hok x).1 hx with g | ⟨d, d1, d2, _⟩ | ⟨l, l1, l2, _⟩
      · rw [hl, Int.toNat_natCast, List.drop_length] at g; cases g
      · have := (h.mv.gs d d1).2 d2; rw [hg] at this; cases this
      · rw [hsc l l1] at l2; cases l2
    rw [List.eq_nil_iff_forall_not_mem.2 hs] at hb
    exact rch_nil _ _ _ hb
  · have := (h.mv.gs i hi).2 e; rw [hg] at this; cases this
  · unfold blackC at e; simp only [Bool.and_eq_true, beq_iff_eq] at e; exact e.2
end Go.Proofs.YtlhhcocdhkbdnaaDoor.Kp

set_option linter.unusedVariables false
set_option linter.unusedSimpArgs false
namespace Go.Proofs.YtlhhcocdhkbdnaaDoor.Kp
open Go.RowKit Go.Proofs.YtlhhcocdhkbdnaaDoor.Wd Go.Proofs.YtlhhcocdhkbdnaaDoor.Hp Go.Proofs.YtlhhcocdhkbdnaaDoor.Gp Go.Proofs.YtlhhcocdhkbdnaaDoor.Sm Go.Proofs.YtlhhcocdhkbdnaaDoor.Gr Go.Proofs.YtlhhcocdhkbdnaaDoor.Bp
theorem mv_of {v : Vw} (h : mayV v = true) (hph : v.ph = 1 ∨ v.ph = 2) : MV v := by
  have hk := mayV_ok h
  rw [← rightV_eq] at h
  unfold rightV numsOk greyIn greySame at h
  simp only [Bool.and_eq_true, Bool.not_eq_true', decide_eq_false_iff_not, List.all_eq_true, decide_eq_true_eq] at h
  obtain ⟨⟨h1, h2, h3, h4, h5⟩, h6, h7, ⟨h8, h9⟩, h10⟩ := h
  refine ⟨hph, ⟨by omega, by omega⟩, ⟨by omega, by omega⟩, hk.globals, fun i hi => hk.cells _ (getD_memD z hi), fun c hc => ?_, hk.nd, fun i hi => ?_, hk.roots⟩
  · have := h8 c hc
    simpa using this
  · have := h10 i (List.mem_range.2 hi)
    unfold cel
    constructor
    · intro hm
      rw [show decide ((i : Int) ∈ v.grey) = true by simpa using hm] at this
      simpa using this.symm
    · intro hg
      rw [hg] at this
      simpa using this
theorem k2_of {v : Vw} (h : mayV v = true) (hf : holdsF v = none) : K2 v := by
  have hk := mayV_ok h
  intro x hx hr hw
  have hil := wh_lt hw
  unfold holdsF at hf
  rw [List.find?_eq_none] at hf
  have hb := hf (cl x) (List.mem_range.2 hil)
  unfold badH at hb
  have hw' : whiteC (v.cells.getD (cl x) z) = true := hw
  rw [hw'] at hb
  have hn : (namedL v.cells.length (knownL v)).getD (cl x) true = true := by
    rw [namedL_at _ _ _ hil]
    exact ⟨x, (kn_mem v x).2 hx, hr, rfl⟩
  rw [hn] at hb
  rw [wl_rch hk, ← walkF_iff _ _ _ _ hil]
  cases hwl : (wellL v).getD (cl x) true
  · rw [hwl] at hb; simp at hb
  · unfold wellL at hwl; exact hwl
theorem of_holds {v : Vw} (h : holdsB v = true) (he : holdsE v = 0) (hph : v.ph = 1 ∨ v.ph = 2) : MV v ∧ K2 v := by
  have hm : mayV v = true := by
    unfold holdsE at he
    by_cases e : mayV v = true
    · exact e
    · rw [if_neg e] at he; cases he
  have hf : holdsF v = none := by
    unfold holdsB at h
    rw [hm] at h
    have ho : onP v.ph = true := by unfold onP; rcases hph with e | e <;> rw [e] <;> rfl
    rw [ho] at h
    simpa using h
  exact ⟨mv_of hm hph, k2_of hm hf⟩
end Go.Proofs.YtlhhcocdhkbdnaaDoor.Kp
