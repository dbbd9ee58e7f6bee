/-
  PLAIN LAWS (no program): the reference's least way is the one that graph.Path takes.
-/
import Derived.Test.YtggijcebobjghaaDoorQPathP2
set_option linter.unusedVariables false
set_option linter.unusedSimpArgs false
namespace Go.Proofs.YtggijcebobjghaaDoor.Rp
open Go.RowKit Go.Proofs.YtggijcebobjghaaDoor.Wd Go.Proofs.YtggijcebobjghaaDoor.Hp Go.Proofs.YtggijcebobjghaaDoor.Gr Go.Proofs.YtggijcebobjghaaDoor.Gp Go.Proofs.YtggijcebobjghaaDoor.Bf Go.Proofs.YtggijcebobjghaaDoor.Pa
abbrev RS := List Nat × List Nat
def stC (v : Nat) (s : RS) (c : Nat) : RS := if s.1.getD c 0 = 0 then (s.1.set c v, s.2 ++ [c]) else s
def stM (v : Nat) (s : RS) (cs : List Nat) : RS := cs.foldl (stC v) s
def stL (h : List Cel) : Nat → Nat → RS → RS
  | 0, _, s => s
  | k + 1, i, s => if i < s.2.length then stL h k (i + 1) (stM (s.1.getD (s.2.getD i 0) 0 + 1) s (nf h (s.2.getD i 0))) else s
def st0 (n : Nat) (ws : List Int) : RS := stM 1 (List.replicate n 0, []) (refs ws)
/-- Of each cell how many cells a shortest way to it has. -/
def allS (h : List Cel) (ws : List Int) : RS := stL h (h.length + 1) 0 (st0 h.length ws)
def all (h : List Cel) (ws : List Int) : List Nat := (allS h ws).1
structure SimR (n : Nat) (s : RS) (t : BS) : Prop where
  len : s.1.length = n
  row : s.2 = t.1
  inn : ∀ c ∈ t.1, c < n ∧ s.1.getD c 0 = t.2 c + 1
  out : ∀ c, c ∉ t.1 → s.1.getD c 0 = 0
theorem getD_setN (l : List Nat) (a v c : Nat) (ha : a < l.length) : (l.set a v).getD c 0 = if c = a then v else l.getD c 0 := by
  by_cases e : c = a
  · subst e; rw [if_pos rfl, List.getD_eq_getElem?_getD, List.getElem?_set_self ha]; rfl
  · rw [if_neg e, List.getD_eq_getElem?_getD, List.getElem?_set_ne (Ne.symm e), ← List.getD_eq_getElem?_getD]
theorem SimR.step {n m : Nat} {s : RS} {t : BS} (h : SimR n s t) (c : Nat) (hc : c < n) : SimR n (stC (m + 1) s c) (bM m t c) := by
  have hl := h.len
  by_cases e : c ∈ t.1
  · have e3 : stC (m + 1) s c = s := by unfold stC; rw [if_neg (by rw [(h.inn c e).2]; omega)]
    have e4 : bM m t c = t := by unfold bM; rw [if_pos e]
    rw [e3, e4]; exact h
  · have e3 : stC (m + 1) s c = (s.1.set c (m + 1), s.2 ++ [c]) := by unfold stC; rw [if_pos (h.out c e)]
    have e4 : bM m t c = (t.1 ++ [c], fun x => if x = c then m else t.2 x) := by unfold bM; rw [if_neg e]
    rw [e3, e4]
    refine ⟨by simpa using h.len, by rw [h.row], fun x hx => ?_, fun x hx => ?_⟩
    · simp only at hx ⊢
      rw [getD_setN _ _ _ _ (by omega)]
      simp at hx
      rcases hx with hx | rfl
      · have : x ≠ c := fun h => e (h ▸ hx)
        rw [if_neg this, if_neg this]; exact h.inn x hx
      · rw [if_pos rfl, if_pos rfl]; exact ⟨hc, rfl⟩
    · simp at hx
      simp only
      rw [getD_setN _ _ _ _ (by omega), if_neg hx.2]
      exact h.out x hx.1
theorem SimR.many {n m : Nat} : ∀ (cs : List Nat) {s : RS} {t : BS}, SimR n s t → (∀ c ∈ cs, c < n) → SimR n (stM (m + 1) s cs) (bF m t cs)
  | [], s, t, h, _ => h
  | c :: cs, s, t, h, hc => SimR.many cs (h.step c (hc c (by simp))) (fun x hx => hc x (by simp [hx]))
theorem SimR.loop {h : List Cel} {ws : List Int} (hm : may h ws = true) : ∀ (k i : Nat) {s : RS} {t : BS}, SimR h.length s t → SimR h.length (stL h k i s) (bL (nf h) k i t)
  | 0, i, s, t, hs => hs
  | k + 1, i, s, t, hs => by
    rw [stL, bL, ← hs.row]
    split
    · next hl =>
      have hm2 : s.2.getD i 0 ∈ t.1 := by rw [← hs.row]; exact Bf.getD_in _ _ hl
      obtain ⟨h1, h2⟩ := hs.inn _ hm2
      rw [h2]
      exact SimR.loop hm k (i + 1) (hs.many _ (nf_lt hm _ h1))
    · exact hs
theorem all_sim {h : List Cel} {ws : List Int} (hm : may h ws = true) : SimR h.length (allS h ws) (bfs (nf h) (refs ws) h.length) := by
  refine SimR.loop hm _ _ (SimR.many (m := 0) _ ⟨by simp, rfl, by simp, fun c _ => ?_⟩ (refs_lt (may_roots hm)))
  simp only [List.getD_eq_getElem?_getD, List.getElem?_replicate]
  split <;> rfl
/-- It counts the cells of a shortest way. -/
structure AllOk (h : List Cel) (ws : List Int) (A : List Nat) : Prop where
  len : A.length = h.length
  le : ∀ c k, Ds (nf h) (refs ws) c k → 1 ≤ A.getD c 0 ∧ A.getD c 0 ≤ k + 1
  way : ∀ c k, A.getD c 0 = k + 1 → Ds (nf h) (refs ws) c k
  bnd : ∀ c, A.getD c 0 ≤ h.length
theorem ds0 {nb : Nat → List Nat} {st : List Nat} {c : Nat} (h : Ds nb st c 0) : c ∈ st := by
  cases h with
  | src c hc => exact hc
theorem dist_lt {h : List Cel} {ws : List Int} (hm : may h ws = true) : ∀ c ∈ (bfs (nf h) (refs ws) h.length).1, (bfs (nf h) (refs ws) h.length).2 c < h.length := by
  intro c hc
  have B := bfsF_ok hm
  have hcl : c < h.length := Ds.lt (refs_lt (may_roots hm)) (nf_lt hm) (B.snd c hc)
  obtain ⟨_, P, _, _, h4, _⟩ := path_way hm hcl (B.snd c hc) (fun j hj => (B.cpl c j hj).2)
  exact h4
theorem all_ok {h : List Cel} {ws : List Int} (hm : may h ws = true) : AllOk h ws (all h ws) := by
  have S := all_sim hm
  have B := bfsF_ok hm
  refine ⟨S.len, fun c k hd => ?_, fun c k hk => ?_, fun c => ?_⟩
  · obtain ⟨h1, h2⟩ := B.cpl c k hd
    have := (S.inn c h1).2
    unfold all; omega
  · by_cases hc : c ∈ (bfs (nf h) (refs ws) h.length).1
    · have h1 := (S.inn c hc).2
      have h2 := B.snd c hc
      unfold all at hk
      rwa [show (bfs (nf h) (refs ws) h.length).2 c = k by omega] at h2
    · have := S.out c hc
      unfold all at hk; omega
  · by_cases hc : c ∈ (bfs (nf h) (refs ws) h.length).1
    · have h1 := (S.inn c hc).2
      have h2 := dist_lt hm c hc
      unfold all; omega
    · have := S.out c hc
      unfold all; omega
/-- The choice: the nearest one, of those the first. -/
theorem better_least (st : List Int) : ∀ (l : List Nat) (b : Int),
    (0 ≤ b → 0 ≤ l.foldl (better st) b ∧ (st.getD (l.foldl (better st) b).toNat 0 < st.getD b.toNat 0 ∨ (st.getD (l.foldl (better st) b).toNat 0 = st.getD b.toNat 0 ∧ l.foldl (better st) b ≤ b))) ∧
    ∀ c ∈ l, 0 ≤ st.getD c 0 → 0 ≤ l.foldl (better st) b ∧ (st.getD (l.foldl (better st) b).toNat 0 < st.getD c 0 ∨ (st.getD (l.foldl (better st) b).toNat 0 = st.getD c 0 ∧ l.foldl (better st) b ≤ (c : Int)))
  | [], b => ⟨fun h => ⟨h, .inr ⟨rfl, Int.le_refl _⟩⟩, by simp⟩
  | x :: l, b => by
    rw [List.foldl_cons]
    obtain ⟨g1, g2⟩ := better_least st l (better st b x)
    generalize l.foldl (better st) (better st b x) = r at *
    have key : (0 ≤ b → 0 ≤ better st b x ∧ (st.getD (better st b x).toNat 0 < st.getD b.toNat 0 ∨ (st.getD (better st b x).toNat 0 = st.getD b.toNat 0 ∧ better st b x ≤ b))) ∧ (0 ≤ st.getD x 0 → 0 ≤ better st b x ∧ (st.getD (better st b x).toNat 0 < st.getD x 0 ∨ (st.getD (better st b x).toNat 0 = st.getD x 0 ∧ better st b x ≤ (x : Int)))) := by
      unfold better
      split
      · next hc =>
        rw [Int.toNat_natCast]
        refine ⟨fun hb => ⟨by omega, ?_⟩, fun _ => ⟨by omega, .inr ⟨rfl, Int.le_refl _⟩⟩⟩
        rcases hc.2 with h | h | h
        · omega
        · exact .inl h
        · exact .inr ⟨h.1, by omega⟩
      · next hc =>
        refine ⟨fun hb => ⟨hb, .inr ⟨rfl, Int.le_refl _⟩⟩, fun hx => ?_⟩
        by_cases hb : b < 0
        · exact absurd ⟨hx, .inl hb⟩ hc
        · refine ⟨by omega, ?_⟩
          rcases Int.lt_trichotomy (st.getD x 0) (st.getD b.toNat 0) with h | h | h
          · exact absurd ⟨hx, .inr (.inl h)⟩ hc
          · refine .inr ⟨h.symm, ?_⟩
            by_cases h2 : (x : Int) < b
            · exact absurd ⟨hx, .inr (.inr ⟨h, h2⟩)⟩ hc
            · omega
          · exact .inl h
    generalize better st b x = y at *
    refine ⟨fun hb => ?_, fun c hc h0 => ?_⟩
    · obtain ⟨k1, k2⟩ := key.1 hb
      obtain ⟨k3, k4⟩ := g1 k1
      exact ⟨k3, by omega⟩
    · rcases List.mem_cons.1 hc with rfl | hc
      · obtain ⟨k1, k2⟩ := key.2 h0
        obtain ⟨k3, k4⟩ := g1 k1
        exact ⟨k3, by omega⟩
      · exact g2 c hc h0
/-- Which cells can stand j places ahead of the end of such a way. -/
def nm (h : List Cel) (c k : Nat) : Bool := decide (k ∈ nf h c)
def anyC (h : List Cel) (row : List Bool) (c k : Nat) : Bool := (List.range k).any (fun d => row.getD d false && nm h c d)
def canK (h : List Cel) (A : List Nat) (to n : Nat) : Nat → List Bool
  | 0 => (List.range h.length).map (fun c => decide (c = to))
  | j + 1 => (List.range h.length).map (fun c => decide (A.getD c 0 + j + 1 = n) && anyC h (canK h A to n j) c h.length)
theorem canK_len (h : List Cel) (A : List Nat) (to n : Nat) : ∀ j, (canK h A to n j).length = h.length
  | 0 => by simp [canK]
  | j + 1 => by simp [canK]
theorem map_at (n c : Nat) (f : Nat → Bool) (hc : c < n) : ((List.range n).map f).getD c false = f c := by
  simp [List.getD_eq_getElem?_getD, hc]
/-- Who leads to the end. -/
theorem far_step {h : List Cel} {ws : List Int} (hm : may h ws = true) {to : Nat} (hto : to < h.length) {c d : Nat} (hc : c < h.length) (hd : d ∈ nf h c) {k : Nat} (hk : (far h to).getD d 0 = (k : Int)) : 0 ≤ (far h to).getD c 0 ∧ (far h to).getD c 0 ≤ (k + 1 : Nat) := by
  have hdl := nf_lt hm c hc d hd
  have h1 := far_way hm hto hdl (by omega)
  rw [hk] at h1
  exact far_le hm hto (Ds.step d c _ h1 ((nr_iff hm c d).2 hd))
theorem total {h : List Cel} {ws : List Int} (hm : may h ws = true) {to : Nat} (hto : to < h.length) {c i k : Nat} (hc : c < h.length) (hi : (all h ws).getD c 0 = i + 1) (hk : (far h to).getD c 0 = (k : Int)) : (all h ws).getD to 0 ≤ i + k + 1 := by
  have A := all_ok hm
  have h1 := far_way hm hto hc (by omega)
  rw [hk] at h1
  exact (A.le to _ (Ds.back (fun p c hx => (nr_iff hm c p).1 hx) h1 (A.way c i hi))).2
theorem all_step {h : List Cel} {ws : List Int} (hm : may h ws = true) {c d i : Nat} (hi : (all h ws).getD c 0 = i + 1) (hd : d ∈ nf h c) : 1 ≤ (all h ws).getD d 0 ∧ (all h ws).getD d 0 ≤ i + 2 :=
  (all_ok hm).le d (i + 1) (.step c d i ((all_ok hm).way c i hi) hd)
theorem canK_iff {h : List Cel} {ws : List Int} (hm : may h ws = true) {to n : Nat} (hto : to < h.length) (hn : (all h ws).getD to 0 = n) : ∀ j, j < n → ∀ c, c < h.length → (all h ws).getD c 0 + j = n →
    ((canK h (all h ws) to n j).getD c false = true ↔ (far h to).getD c 0 = (j : Int))
  | 0, hj, c, hc, hA => by
    rw [canK, map_at _ _ _ hc, decide_eq_true_eq]
    refine ⟨fun e => by subst e; exact (far_ok h c hc).zero, fun e => ?_⟩
    have := far_way hm hto hc (by omega)
    rw [show ((far h to).getD c 0).toNat = 0 by omega] at this
    simpa using ds0 this
  | j + 1, hj, c, hc, hA => by
    rw [canK, map_at _ _ _ hc, Bool.and_eq_true, decide_eq_true_eq]
    unfold anyC
    rw [List.any_eq_true]
    constructor
    · rintro ⟨_, d, hd, hx⟩
      rw [Bool.and_eq_true] at hx
      have hdn : d ∈ nf h c := by simpa [nm] using hx.2
      have hdl := List.mem_range.1 hd
      have s1 := all_step hm (i := (all h ws).getD c 0 - 1) (by omega) hdn
      -- the cell behind stands one place on
      have hdA : (all h ws).getD d 0 + j = n ∨ (all h ws).getD d 0 + j < n := by omega
      have hcan : (canK h (all h ws) to n j).getD d false = true := hx.1
      have hAd : (all h ws).getD d 0 + j = n := by
        cases j with
        | zero =>
          rw [canK, map_at _ _ _ hdl, decide_eq_true_eq] at hcan
          subst hcan; omega
        | succ j =>
          rw [canK, map_at _ _ _ hdl, Bool.and_eq_true, decide_eq_true_eq] at hcan
          omega
      have hf := (canK_iff hm hto hn j (by omega) d hdl hAd).1 hcan
      have h1 := far_step hm hto hc hdn hf
      have h2 := total hm hto (k := ((far h to).getD c 0).toNat) (i := (all h ws).getD c 0 - 1) hc (by omega) (by omega)
      omega
    · intro hf
      refine ⟨by omega, ?_⟩
      obtain ⟨d, h1, h2, h3, h4⟩ := next_way hm hto hc hf
      refine ⟨d, List.mem_range.2 h2, ?_⟩
      rw [Bool.and_eq_true]
      have s1 := all_step hm (i := (all h ws).getD c 0 - 1) (by omega) h4
      have s2 := total hm hto (c := d) (i := (all h ws).getD d 0 - 1) h2 (by omega) h3
      exact ⟨(canK_iff hm hto hn j (by omega) d h2 (by omega)).2 h3, by simp [nm, h4]⟩
/-- What the reference asks of the i-th cell. -/
def cnd (h : List Cel) (A : List Nat) (to n : Nat) (i prev c : Nat) : Bool := (canK h A to n (n - 1 - i)).getD c false && (decide (A.getD c 0 = i + 1) && (decide (i = 0) || nm h prev c))
structure RPok (h : List Cel) (A : List Nat) (to n : Nat) (P : List Nat) : Prop where
  len : P.length = n
  lt : ∀ i, i < n → P.getD i 0 < h.length
  fst : ∀ i, i < n → ∀ c, c ≤ P.getD i 0 → cnd h A to n i (P.getD (i - 1) 0) c = decide (c = P.getD i 0)
theorem cnd_iff {h : List Cel} {ws : List Int} (hm : may h ws = true) {to n i prev c : Nat} (hto : to < h.length) (hn : (all h ws).getD to 0 = n) (hi : i < n) (hc : c < h.length) :
    cnd h (all h ws) to n i prev c = true ↔ (all h ws).getD c 0 = i + 1 ∧ (far h to).getD c 0 = ((n - 1 - i : Nat) : Int) ∧ (i = 0 ∨ c ∈ nf h prev) := by
  unfold cnd
  rw [Bool.and_eq_true, Bool.and_eq_true, Bool.or_eq_true, decide_eq_true_eq, decide_eq_true_eq]
  unfold nm
  rw [decide_eq_true_eq]
  constructor
  · rintro ⟨h1, h2, h3⟩
    exact ⟨h2, (canK_iff hm hto hn _ (by omega) c hc (by omega)).1 h1, h3⟩
  · rintro ⟨h2, h1, h3⟩
    exact ⟨(canK_iff hm hto hn _ (by omega) c hc (by omega)).2 h1, h2, h3⟩
/-- The way's places. -/
theorem pathN_at {h : List Cel} {ws : List Int} (hm : may h ws = true) {to n : Nat} (hto : to < h.length) (hn : (all h ws).getD to 0 = n) : ∀ (f b i : Nat), b < h.length → (all h ws).getD b 0 = i + 1 → (far h to).getD b 0 = ((n - 1 - i : Nat) : Int) → i < n → n - 1 - i ≤ f →
    ∀ j, i + j + 1 < n → ∃ x y : Nat, (pathN h (far h to) to f b).getD j 0 = x ∧ (pathN h (far h to) to f b).getD (j + 1) 0 = y ∧ x < h.length ∧ y < h.length ∧ (all h ws).getD x 0 = i + j + 1 ∧ (far h to).getD x 0 = ((n - 1 - (i + j) : Nat) : Int) ∧ y ∈ nf h x ∧ (all h ws).getD y 0 = i + j + 2 ∧ (far h to).getD y 0 = ((n - 1 - (i + j + 1) : Nat) : Int) ∧
      ∀ c ∈ nf h x, (far h to).getD c 0 = ((n - 1 - (i + j + 1) : Nat) : Int) → y ≤ c
  | 0, b, i, _, _, _, hi, hf, j, hj => absurd hj (by omega)
  | f + 1, b, i, hb, hA, hF, hi, hf, j, hj => by
    have hne : b ≠ to := fun e => by subst e; rw [(far_ok h b hb).zero] at hF; omega
    obtain ⟨b', h1, h2, h3, h4⟩ := next_way hm hto hb (k := n - 1 - (i + 1)) (by rw [hF]; omega)
    have e2 : pathN h (far h to) to (f + 1) b = b :: pathN h (far h to) to f b' := by rw [pathN, if_neg hne, h1]; rfl
    have s1 := all_step hm hA h4
    have s2 := total hm hto (c := b') (i := (all h ws).getD b' 0 - 1) h2 (by omega) h3
    have hA' : (all h ws).getD b' 0 = (i + 1) + 1 := by omega
    rw [e2]
    cases j with
    | zero =>
      refine ⟨b, b', rfl, ?_, hb, h2, by omega, by simpa using hF, h4, by omega, by rw [h3], fun c hc hfc => ?_⟩
      · have hl := pathL_N hm hto f b' (n - 1 - (i + 1)) [] h2 h3 (by omega)
        have := hl.2.2.1
        rw [List.getD_cons_succ, List.getD_eq_getElem?_getD, this]; rfl
      · have hbm : named h (better (far h to)) (-1) b = (nf h b).foldl (better (far h to)) (-1) := by rw [named, eachW_refs]; rfl
        rw [hbm] at h1
        have := (better_least (far h to) (nf h b) (-1)).2 c hc (by rw [hfc]; omega)
        rw [h1, Int.toNat_natCast, h3] at this
        rw [hfc] at this
        omega
    | succ j =>
      obtain ⟨x, y, g1, g2, g3, g4, g5, g6, g7, g8, g9, g10⟩ := pathN_at hm hto hn f b' (i + 1) h2 hA' h3 (by omega) (by omega) j (by omega)
      refine ⟨x, y, by rw [List.getD_cons_succ]; exact g1, by rw [List.getD_cons_succ]; exact g2, g3, g4, by omega, ?_, g7, by omega, ?_, fun c hc hfc => g10 c hc ?_⟩
      · rw [g6]; congr 1; omega
      · rw [g9]; congr 1; omega
      · rw [hfc]; congr 1; omega
/-- THE SAME WAY. -/
theorem path_ref {h : List Cel} {ws : List Int} (hm : may h ws = true) {to n : Nat} (hto : to < h.length) (hn : (all h ws).getD to 0 = n) :
    (n = 0 → pathIs h ws to = false ∧ pathR h ws to = []) ∧ (0 < n → pathIs h ws to = true ∧ ∃ P, pathR h ws to = P.map (fun (c : Nat) => (c : Int)) ∧ RPok h (all h ws) to n P) := by
  have A := all_ok hm
  have hok : pathOk h ws to = true := by unfold pathOk; rw [hm]; simp; omega
  constructor
  · intro h0
    have hno := path_none hm hto (fun k hk => by have := (A.le to k hk).1; omega)
    have hp : pathIs h ws to = false := by unfold pathIs; rw [hok]; simpa using hno
    exact ⟨hp, by unfold pathR; rw [hp]; rfl⟩
  · intro h0
    obtain ⟨k, rfl⟩ : ∃ k, n = k + 1 := ⟨n - 1, by omega⟩
    obtain ⟨p1, P, p2, p3, p4, b, p5, p6⟩ := path_way hm hto (A.way to k hn) (fun j hj => by have := (A.le to j hj).2; omega)
    have hp : pathIs h ws to = true := by unfold pathIs; rw [hok]; simpa using p1
    refine ⟨hp, P, by unfold pathR; rw [if_pos hp]; exact p2, ?_⟩
    obtain ⟨b0, hb0, hP0⟩ := p3.beg
    have hbl : b < h.length := by
      have hb : best h to ws = (refs ws).foldl (better (far h to)) (-1) := by rw [best, eachW_refs]
      rcases better_mem (far h to) (refs ws) (-1) with e | ⟨c, g1, g2⟩
      · omega
      · have : c = b := by omega
        subst this
        exact refs_lt (may_roots hm) _ g1
    -- the best root stands first, k steps from the end
    have hbr : b ∈ refs ws ∧ (far h to).getD b 0 = (k : Int) ∧ ∀ c ∈ refs ws, (far h to).getD c 0 = (k : Int) → b ≤ c := by
      have hb : best h to ws = (refs ws).foldl (better (far h to)) (-1) := by rw [best, eachW_refs]
      obtain ⟨s, hs, hs2⟩ := Ds.join (nr := nr h) (to := to) (fun p c hx => (nr_iff hm p c).2 hx) (A.way to k hn) (.src to (by simp))
      have hsl := far_le hm hto hs2
      have hl := (better_least (far h to) (refs ws) (-1)).2
      rw [← hb, p5, Int.toNat_natCast] at hl
      have h1 := hl s hs hsl.1
      have hbm : b ∈ refs ws := by
        rcases better_mem (far h to) (refs ws) (-1) with e | ⟨c, g1, g2⟩
        · omega
        · have : c = b := by omega
          subst this; exact g1
      have hge := (far_ok h to hto).ge b
      have hb0 : 0 ≤ (far h to).getD b 0 := by
        have hok2 := BOk.each (n := h.length) (st := far h to) (b := -1) (.inl rfl) ws (may_roots hm)
        change Gr.BOk _ _ (best h to ws) at hok2
        rcases hok2 with e | ⟨e1, e2, e3⟩
        · omega
        · rw [p5, Int.toNat_natCast] at e3; exact e3
      have hle := (A.le to _ (Ds.back (i := 0) (fun p c hx => (nr_iff hm c p).1 hx) (far_way hm hto hbl hb0) (.src b hbm))).2
      have hfb : (far h to).getD b 0 = (k : Int) := by omega
      refine ⟨hbm, hfb, fun c hc hfc => ?_⟩
      have := hl c hc (by omega)
      omega
    obtain ⟨r1, r2, r3⟩ := hbr
    have hA1 : (all h ws).getD b 0 = 0 + 1 := by have := A.le b 0 (.src b r1); omega
    have hPb : P.getD 0 0 = b := by
      have := (pathL_N hm hto h.length b k [] hbl r2 (by omega)).2.2.1
      rw [p6, List.getD_eq_getElem?_getD, this]; rfl
    have hstep := pathN_at hm hto hn h.length b 0 hbl hA1 (by rw [r2]; simp) (by omega) (by omega)
    rw [← p6] at hstep
    refine ⟨p3.len, fun i hi => ?_, fun i hi c hc => ?_⟩
    · have : P.getD i 0 ∈ P := Bf.getD_in _ _ (by rw [p3.len]; exact hi)
      exact p3.lt _ this
    · have hPl : P.getD i 0 < h.length := p3.lt _ (Bf.getD_in _ _ (by rw [p3.len]; exact hi))
      rw [Bool.eq_iff_iff, cnd_iff hm hto hn hi (by omega), decide_eq_true_eq]
      cases i with
      | zero =>
        rw [hPb] at hc ⊢
        constructor
        · rintro ⟨g1, g2, _⟩
          have hcr : c ∈ refs ws := ds0 (A.way c 0 g1)
          have := r3 c hcr (by rw [g2]; simp)
          omega
        · rintro rfl
          exact ⟨hA1, by rw [r2]; simp, .inl rfl⟩
      | succ i =>
        obtain ⟨x, y, g1, g2, g3, g4, g5, g6, g7, g8, g9, g10⟩ := hstep i (by omega)
        rw [g2] at hc ⊢
        rw [show i + 1 - 1 = i by omega, g1]
        constructor
        · rintro ⟨k1, k2, k3⟩
          have := g10 c (k3.resolve_left (by omega)) (by rw [k2]; congr 1; omega)
          omega
        · rintro rfl
          exact ⟨by omega, by rw [g9]; congr 1; omega, .inr g7⟩
end Go.Proofs.YtggijcebobjghaaDoor.Rp
