/-
  PLAIN LAWS (no program): what a marker finds is just what is reached, each cell once; nothing black names a white one.
-/
import Derived.Test.YtefamhdkfdgdjaaDoorQMark5
set_option linter.unusedVariables false
set_option linter.unusedSimpArgs false
namespace Go.Proofs.YtefamhdkfdgdjaaDoor.Mr
open Go.RowKit Go.Proofs.YtefamhdkfdgdjaaDoor.Wd Go.Proofs.YtefamhdkfdgdjaaDoor.Cp Go.Proofs.YtefamhdkfdgdjaaDoor.Cl Go.Proofs.YtefamhdkfdgdjaaDoor.Mk
/-- Black, grey, white. -/
def colr (B R : List Int) (c : Int) : Int := if c ∈ B then 2 else if c ∈ R then 1 else 0
/-- The cells as they were, but for their colours: R has been shaded, B looked into. -/
structure CI (p l : List Cel) (R B : List Int) : Prop where
  len : l.length = p.length
  keep : ∀ c : Nat, c < p.length → l.getD c free = { p.getD c free with c := colr B R c }
  nd : R.Nodup
  use : ∀ c ∈ R, used p c = true
  sub : ∀ c ∈ B, c ∈ R
theorem used_len {p l : List Cel} {R B : List Int} (h : CI p l R B) (c : Int) : used l c = used p c := by
  unfold used isC
  rw [h.len]
  by_cases hc : 0 ≤ c ∧ c < p.length
  · obtain ⟨n, rfl⟩ := Int.eq_ofNat_of_zero_le hc.1
    have hk := h.keep n (by omega)
    rw [get_nat, get_nat, hk]
  · have : (decide (0 ≤ c) && decide (c < (p.length : Int))) = false := by simp; omega
    rw [this]; rfl
theorem used_nat {p : List Cel} {c : Int} (h : used p c = true) : ∃ n : Nat, c = n ∧ n < p.length ∧ (p.getD n free).k ≠ 0 := by
  unfold used isC at h
  rw [Bool.and_eq_true, Bool.and_eq_true, decide_eq_true_eq, decide_eq_true_eq] at h
  obtain ⟨n, rfl⟩ := Int.eq_ofNat_of_zero_le h.1.1
  refine ⟨n, rfl, by omega, ?_⟩
  have := h.2
  rw [get_nat] at this
  simpa using this
theorem turnB_white {p l : List Cel} {R B : List Int} (h : CI p l R B) (c : Int) : turnB l c 0 1 = (used p c && decide (c ∉ R)) := by
  unfold turnB
  rw [used_len h]
  cases hu : used p c
  · rfl
  · obtain ⟨n, rfl, hn, hk⟩ := used_nat hu
    rw [get_nat, h.keep n hn]
    simp only [colr, Bool.true_and]
    by_cases hb : (n : Int) ∈ B
    · have := h.sub _ hb
      simp [hb, this]
    · by_cases hr : (n : Int) ∈ R <;> simp [hb, hr]
/-- One word's cell is shaded. -/
theorem CI.lay {p l : List Cel} {R B o : List Int} (h : CI p l (R ++ o) B) (c : Int) : CI p (lay1 (l, o) c).1 (R ++ (lay1 (l, o) c).2) B ∧ (∀ x ∈ (lay1 (l, o) c).2, x ∈ o ∨ (x = c ∧ used p c = true)) ∧ (∀ x ∈ o, x ∈ (lay1 (l, o) c).2) ∧ (used p c = true → c ∈ R ++ (lay1 (l, o) c).2) := by
  unfold lay1
  have ht := turnB_white h c
  by_cases hc : turnB l c 0 1 = true
  · rw [if_pos hc]
    rw [ht, Bool.and_eq_true, decide_eq_true_eq] at hc
    obtain ⟨hu, hr⟩ := hc
    obtain ⟨n, rfl, hn, hk⟩ := used_nat hu
    have hnb : (n : Int) ∉ B := fun hm => hr (h.sub _ hm)
    have htb : turnB l n 0 1 = true := by rw [ht, hu]; simpa using hr
    have hl := h.len
    refine ⟨⟨?_, fun d hd => ?_, ?_, fun x hx => ?_, fun x hx => ?_⟩, fun x hx => ?_, fun x hx => by simp [hx], fun _ => by simp⟩
    · unfold turn; rw [if_pos htb]; simpa using h.len
    · unfold turn
      rw [if_pos htb, get_nat, Int.toNat_natCast]
      by_cases e : d = n
      · subst e
        have hdl : d < l.length := by rw [h.len]; exact hd
        rw [List.getD_eq_getElem?_getD, List.getElem?_set_self hdl]
        have := h.keep d hd
        simp only [Option.getD_some]
        rw [this]
        simp [colr, hnb]
      · rw [List.getD_eq_getElem?_getD, List.getElem?_set_ne (Ne.symm e), ← List.getD_eq_getElem?_getD, h.keep d hd]
        have hdn : (d : Int) ≠ n := by omega
        have : ((d : Int) ∈ R ++ (o ++ [(n : Int)])) ↔ (d : Int) ∈ R ++ o := by
          simp [hdn]
        simp only [colr, this]
    · rw [← List.append_assoc, List.nodup_append]
      exact ⟨h.nd, by simp, fun a ha b hb => by simp at hb; subst hb; exact fun e => hr (e ▸ ha)⟩
    · rw [← List.append_assoc, List.mem_append, List.mem_singleton] at hx
      rcases hx with hx | rfl
      · exact h.use x hx
      · exact hu
    · rw [← List.append_assoc]; exact List.mem_append_left _ (h.sub x hx)
    · simp at hx
      rcases hx with hx | rfl
      · exact .inl hx
      · exact .inr ⟨rfl, hu⟩
  · rw [if_neg hc]
    refine ⟨h, fun x hx => .inl hx, fun x hx => hx, fun hu => ?_⟩
    rw [ht, hu] at hc
    simp at hc
    rw [List.mem_append]
    by_cases hR : c ∈ R
    · exact .inl hR
    · exact .inr (hc hR)
theorem CI.shades {p : List Cel} {R B : List Int} : ∀ (ws : List Int) {l : List Cel} {o : List Int}, CI p l (R ++ o) B → CI p (ws.foldl sh1 (l, o)).1 (R ++ (ws.foldl sh1 (l, o)).2) B ∧ (∀ x ∈ (ws.foldl sh1 (l, o)).2, x ∈ o ∨ ∃ v ∈ ws, isRef v = true ∧ used p (cellN v) = true ∧ cellN v = x) ∧ (∀ x ∈ o, x ∈ (ws.foldl sh1 (l, o)).2) ∧ ∀ v ∈ ws, isRef v = true → used p (cellN v) = true → cellN v ∈ R ++ (ws.foldl sh1 (l, o)).2
  | [], l, o, h => ⟨h, fun x hx => .inl hx, fun x hx => hx, by simp⟩
  | w :: ws, l, o, h => by
    rw [List.foldl_cons]
    by_cases hr : isRef w = true
    · have e : sh1 (l, o) w = lay1 (l, o) (cellN w) := by unfold sh1; rw [if_pos hr]
      rw [e]
      obtain ⟨h1, h2, h3, h4⟩ := h.lay (cellN w)
      generalize lay1 (l, o) (cellN w) = s at *
      obtain ⟨l1, o1⟩ := s
      obtain ⟨g1, g2, g3, g4⟩ := CI.shades ws h1
      refine ⟨g1, fun x hx => ?_, fun x hx => g3 x (h3 x hx), fun v hv hv1 hv2 => ?_⟩
      · rcases g2 x hx with k | ⟨v, k1, k2, k3, k4⟩
        · rcases h2 x k with k | ⟨k1, k2⟩
          · exact .inl k
          · exact .inr ⟨w, by simp, hr, k2, k1.symm⟩
        · exact .inr ⟨v, by simp [k1], k2, k3, k4⟩
      · rcases List.mem_cons.1 hv with rfl | hv
        · have := h4 hv2
          rw [List.mem_append] at this ⊢
          exact this.imp id (g3 _)
        · exact g4 v hv hv1 hv2
    · have e : sh1 (l, o) w = (l, o) := by unfold sh1; rw [if_neg hr]
      rw [e]
      obtain ⟨g1, g2, g3, g4⟩ := CI.shades ws h
      refine ⟨g1, fun x hx => ?_, g3, fun v hv hv1 hv2 => ?_⟩
      · rcases g2 x hx with k | ⟨v, k1, k2⟩
        · exact .inl k
        · exact .inr ⟨v, by simp [k1], k2⟩
      · rcases List.mem_cons.1 hv with rfl | hv
        · exact absurd hv1 hr
        · exact g4 v hv hv1 hv2
theorem CI.shade {p l : List Cel} {R B : List Int} (h : CI p l R B) (ws : List Int) : CI p (shS l ws).1 (R ++ (shS l ws).2) B ∧ (∀ x ∈ (shS l ws).2, ∃ v ∈ ws, isRef v = true ∧ used p (cellN v) = true ∧ cellN v = x) ∧ ∀ v ∈ ws, isRef v = true → used p (cellN v) = true → cellN v ∈ R ++ (shS l ws).2 := by
  obtain ⟨g1, g2, _, g4⟩ := CI.shades (R := R) ws (l := l) (o := []) (by simpa using h)
  exact ⟨g1, fun x hx => (g2 x hx).resolve_left (by simp), g4⟩
def wds (p : List Cel) (c : Int) : List Int := [(Cp.get p c).a, (Cp.get p c).b]
/-- The first grey cell is looked into. -/
theorem CI.scan {p l : List Cel} {R B : List Int} (h : CI p l R B) {c : Int} (hc : c ∈ R) (hb : c ∉ B) : CI p (scanC l c).1 (R ++ (scanC l c).2) (B ++ [c]) ∧ (∀ x ∈ (scanC l c).2, ∃ v ∈ wds p c, isRef v = true ∧ used p (cellN v) = true ∧ cellN v = x) ∧ ∀ v ∈ wds p c, isRef v = true → used p (cellN v) = true → cellN v ∈ R ++ (scanC l c).2 := by
  have hu := h.use c hc
  obtain ⟨n, rfl, hn, hk⟩ := used_nat hu
  have hul : used l n = true := by rw [used_len h]; exact hu
  have hic : isC l n = true := by unfold used at hul; rw [Bool.and_eq_true] at hul; exact hul.1
  have e0 : loadE l n 0 = 0 := by simp [loadE, hic, hul]
  have e1 : loadE l n 1 = 0 := by simp [loadE, hic, hul]
  have w0 : loadW l n 0 = (Cp.get p n).a := by unfold loadW; rw [if_pos e0, get_nat, get_nat, h.keep n hn]; rfl
  have w1 : loadW l n 1 = (Cp.get p n).b := by unfold loadW; rw [if_pos e1, get_nat, get_nat, h.keep n hn]; rfl
  have hS : scanC l n = (turn (shS l (wds p n)).1 n 1 2, (shS l (wds p n)).2) := by
    unfold scanC wds
    rw [if_pos ⟨e0, e1⟩, w0, w1]
  rw [hS]
  obtain ⟨g1, g2, g3⟩ := h.shade (wds p n)
  generalize shS l (wds p n) = s at *
  obtain ⟨l1, out⟩ := s
  simp only at g1 g2 g3 ⊢
  have hl := g1.len
  have hk1 := g1.keep n hn
  have htb : turnB l1 n 1 2 = true := by
    unfold turnB
    rw [used_len g1, hu, get_nat, hk1]
    simp [colr, hb, hc]
  refine ⟨⟨?_, fun d hd => ?_, g1.nd, g1.use, fun x hx => ?_⟩, g2, g3⟩
  · unfold turn; rw [if_pos htb]; simpa using g1.len
  · unfold turn
    rw [if_pos htb, get_nat, Int.toNat_natCast]
    by_cases e : d = n
    · subst e
      rw [List.getD_eq_getElem?_getD, List.getElem?_set_self (by omega)]
      simp only [Option.getD_some]
      rw [hk1]
      simp [colr]
    · rw [List.getD_eq_getElem?_getD, List.getElem?_set_ne (Ne.symm e), ← List.getD_eq_getElem?_getD, g1.keep d hd]
      have : ((d : Int) ∈ B ++ [(n : Int)]) ↔ (d : Int) ∈ B := by simp; omega
      simp only [colr, this]
  · rw [List.mem_append, List.mem_singleton] at hx
    rcases hx with hx | rfl
    · exact g1.sub x hx
    · exact List.mem_append_left _ hc
/-- What is reached. -/
inductive Rch (p : List Cel) (ws : List Int) : Int → Prop
  | src (v : Int) : v ∈ ws → isRef v = true → used p (cellN v) = true → Rch p ws (cellN v)
  | step (d v : Int) : Rch p ws d → v ∈ wds p d → isRef v = true → used p (cellN v) = true → Rch p ws (cellN v)
theorem Rch.mono {p : List Cel} {ws ws' : List Int} (hs : ∀ v ∈ ws, v ∈ ws') : ∀ {c : Int}, Rch p ws c → Rch p ws' c
  | _, .src v h1 h2 h3 => .src v (hs v h1) h2 h3
  | _, .step d v h1 h2 h3 h4 => .step d v (Rch.mono hs h1) h2 h3 h4
/-- What is so at each moment: R has been shaded, the first n of it looked into, ws were handed in. -/
structure MI (p : List Cel) (ws : List Int) (l : List Cel) (R : List Int) (n : Nat) : Prop where
  ci : CI p l R (R.take n)
  le : n ≤ R.length
  cls : ∀ c ∈ R.take n, ∀ v ∈ wds p c, isRef v = true → used p (cellN v) = true → cellN v ∈ R
  snd : ∀ c ∈ R, Rch p ws c
  src : ∀ v ∈ ws, isRef v = true → used p (cellN v) = true → cellN v ∈ R
theorem MI.start (p : List Cel) (hp : ∀ x ∈ p, x.c = 0) : MI p [] p [] 0 := by
  refine ⟨⟨rfl, fun c hc => ?_, List.nodup_nil, by simp, by simp⟩, by simp, by simp, by simp, by simp⟩
  have h0 := hp (p.getD c free) (by simp [List.getD_eq_getElem?_getD, hc])
  simp only [List.take_nil, colr, List.not_mem_nil, if_false]
  generalize p.getD c free = x at *
  obtain ⟨k, cc, a, b⟩ := x
  simp only at h0
  rw [h0]
theorem MI.shade {p : List Cel} {ws : List Int} {l : List Cel} {R : List Int} {n : Nat} (h : MI p ws l R n) (more : List Int) : MI p (ws ++ more) (shS l more).1 (R ++ (shS l more).2) n := by
  obtain ⟨g1, g2, g3⟩ := h.ci.shade more
  have e : (R ++ (shS l more).2).take n = R.take n := List.take_append_of_le_length h.le
  have hle := h.le
  refine ⟨by rw [e]; exact g1, by simp; omega, fun c hc v hv h1 h2 => ?_, fun c hc => ?_, fun v hv h1 h2 => ?_⟩
  · rw [e] at hc
    exact List.mem_append_left _ (h.cls c hc v hv h1 h2)
  · rcases List.mem_append.1 hc with hc | hc
    · exact (h.snd c hc).mono (fun v hv => List.mem_append_left _ hv)
    · obtain ⟨v, k1, k2, k3, rfl⟩ := g2 c hc
      exact .src v (List.mem_append_right _ k1) k2 k3
  · rcases List.mem_append.1 hv with hv | hv
    · exact List.mem_append_left _ (h.src v hv h1 h2)
    · exact g3 v hv h1 h2
theorem MI.scan {p : List Cel} {ws : List Int} {l : List Cel} {R : List Int} {n : Nat} (h : MI p ws l R n) (hn : n < R.length) : MI p ws (scanC l (R.getD n 0)).1 (R ++ (scanC l (R.getD n 0)).2) (n + 1) := by
  have hg : R.getD n 0 = R[n] := by simp [List.getD_eq_getElem?_getD, hn]
  have hc : R.getD n 0 ∈ R := by rw [hg]; exact List.getElem_mem hn
  have hb : R.getD n 0 ∉ R.take n := fun hm => by
    rw [hg] at hm
    obtain ⟨i, hi, e⟩ := List.getElem_of_mem hm
    rw [List.length_take] at hi
    rw [List.getElem_take] at e
    exact List.pairwise_iff_getElem.1 h.ci.nd i n (by omega) hn (by omega) e
  obtain ⟨g1, g2, g3⟩ := h.ci.scan hc hb
  have e : (R ++ (scanC l (R.getD n 0)).2).take (n + 1) = R.take n ++ [R.getD n 0] := by
    rw [List.take_append_of_le_length (by omega), List.take_succ_eq_append_getElem hn, hg]
  generalize R.getD n 0 = c at *
  refine ⟨by rw [e]; exact g1, by simp; omega, fun d hd v hv h1 h2 => ?_, fun d hd => ?_, fun v hv h1 h2 => List.mem_append_left _ (h.src v hv h1 h2)⟩
  · rw [e, List.mem_append, List.mem_singleton] at hd
    rcases hd with hd | rfl
    · exact List.mem_append_left _ (h.cls d hd v hv h1 h2)
    · exact g3 v hv h1 h2
  · rcases List.mem_append.1 hd with hd | hd
    · exact h.snd d hd
    · obtain ⟨v, k1, k2, k3, rfl⟩ := g2 d hd
      exact .step c v (h.snd c hc) k1 k2 k3
/-- At the end it is just what is reached. -/
theorem MI.done {p : List Cel} {ws : List Int} {l : List Cel} {R : List Int} (h : MI p ws l R R.length) (c : Int) : c ∈ R ↔ Rch p ws c := by
  refine ⟨h.snd c, fun hr => ?_⟩
  have hcl := h.cls
  rw [List.take_length] at hcl
  induction hr with
  | src v h1 h2 h3 => exact h.src v h1 h2 h3
  | step d v h1 h2 h3 h4 ih => exact hcl d ih v h2 h3 h4
theorem MI.small {p : List Cel} {ws : List Int} {l : List Cel} {R : List Int} {n : Nat} (h : MI p ws l R n) : R.length ≤ p.length := by
  have hs : ∀ x ∈ R, x ∈ (List.range p.length).map (fun (c : Nat) => (c : Int)) := fun x hx => by
    obtain ⟨k, rfl, hk, _⟩ := used_nat (h.ci.use x hx)
    exact List.mem_map.2 ⟨k, List.mem_range.2 hk, rfl⟩
  have := h.ci.nd.length_le_of_subset hs
  simpa using this
/-- Nothing black names a white one. -/
theorem MI.apart {p : List Cel} {ws : List Int} {l : List Cel} {R : List Int} {n : Nat} (h : MI p ws l R n) {c : Nat} (hc : c < p.length) (h2 : (l.getD c free).c = 2) {v : Int} (hv : v = (l.getD c free).a ∨ v = (l.getD c free).b) (hr : isRef v = true) (hl : cellN v < p.length) (hk : (l.getD (cellN v).toNat free).k ≠ 0) : (l.getD (cellN v).toNat free).c ≠ 0 := by
  have hk1 := h.ci.keep c hc
  rw [hk1] at h2 hv
  have hb : (c : Int) ∈ R.take n := by
    simp only [colr] at h2
    by_cases hb : (c : Int) ∈ R.take n
    · exact hb
    · rw [if_neg hb] at h2
      split at h2 <;> omega
  have hrg := cellN_range v
  obtain ⟨d, hd⟩ : ∃ d : Nat, cellN v = d := ⟨(cellN v).toNat, by omega⟩
  rw [hd, Int.toNat_natCast] at hk ⊢
  have hdl : d < p.length := by omega
  have hk2 := h.ci.keep d hdl
  rw [hk2] at hk ⊢
  have hu : used p (cellN v) = true := by
    rw [hd]; unfold used isC
    rw [show (decide ((0 : Int) ≤ (d : Int)) && decide ((d : Int) < (p.length : Int))) = true by simp; omega, get_nat, Bool.true_and]
    exact bne_iff_ne.2 hk
  have hin := h.cls c hb v (by unfold wds; rw [get_nat]; simpa using hv) hr hu
  rw [hd] at hin
  have : colr (R.take n) R d ≠ 0 := by
    unfold colr
    rw [if_pos hin]
    split <;> omega
  exact this
end Go.Proofs.YtefamhdkfdgdjaaDoor.Mr
