/-
  PLAIN LAWS (no program): a heap numbered otherwise has the same form; its form's form is the same; with another word in a cell that is reached it is another one.
-/
import Derived.Test.YtggijcebobjghaaDoorQPathP
set_option linter.unusedVariables false
set_option linter.unusedSimpArgs false
namespace Go.Proofs.YtggijcebobjghaaDoor.Fo
open Go.RowKit Go.Proofs.YtggijcebobjghaaDoor.Wd Go.Proofs.YtggijcebobjghaaDoor.Hp Go.Proofs.YtggijcebobjghaaDoor.Gr Go.Proofs.YtggijcebobjghaaDoor.Gp Go.Proofs.YtggijcebobjghaaDoor.Bf Go.Proofs.YtggijcebobjghaaDoor.Pa
theorem refW_ok (c : Nat) (h : c ≤ 2147483647) : isRef (refW c) = true ∧ cellN (refW c) = c ∧ ofOk (refW c) = true := by
  have hm : mkOk 8 (c : Int) = true := by
    unfold mkOk okT okN lo hi
    simp; omega
  obtain ⟨h1, h2, h3⟩ := of_mk 8 c hm
  have hT : ofT (mkW 8 c) = 8 := by unfold ofT; rw [if_pos h1]; exact h2
  have hr : isRef (mkW 8 c) = true := by unfold isRef; rw [hT]; rfl
  unfold refW
  refine ⟨hr, ?_, h1⟩
  unfold cellN
  rw [if_pos hr]
  unfold ofN
  rw [if_pos h1]; exact h3
/-- A word whose cell is numbered otherwise. -/
def mv (f : Nat → Nat) (v : Int) : Int := if isRef v = true then refW (f (cellN v).toNat : Nat) else v
theorem mv_ref {f : Nat → Nat} {v : Int} (hf : isRef v = true → f (cellN v).toNat ≤ 2147483647) : isRef (mv f v) = isRef v ∧ (isRef v = true → (cellN (mv f v)).toNat = f (cellN v).toNat) := by
  unfold mv
  by_cases hr : isRef v = true
  · rw [if_pos hr]
    obtain ⟨h1, h2, h3⟩ := refW_ok _ (hf hr)
    exact ⟨by rw [h1, hr], fun _ => by omega⟩
  · rw [if_neg hr]
    exact ⟨rfl, fun h => absurd h hr⟩
theorem refs_mv {f : Nat → Nat} : ∀ {vs : List Int}, (∀ c ∈ refs vs, f c ≤ 2147483647) → refs (vs.map (mv f)) = (refs vs).map f
  | [], _ => rfl
  | v :: vs, hf => by
    have ih := refs_mv (f := f) (vs := vs) (fun c hc => hf c (by
      obtain ⟨u, h1, h2, h3⟩ := refs_mem.1 hc
      exact refs_mem.2 ⟨u, by simp [h1], h2, h3⟩))
    have hv : isRef v = true → f (cellN v).toNat ≤ 2147483647 := fun hr => hf _ (refs_mem.2 ⟨v, by simp, hr, rfl⟩)
    obtain ⟨h1, h2⟩ := mv_ref hv
    unfold refs at ih ⊢
    rw [List.map_cons, List.filterMap_cons, List.filterMap_cons, h1]
    by_cases hr : isRef v = true
    · rw [if_pos hr, if_pos hr, h2 hr]; simp [ih]
    · rw [if_neg hr, if_neg hr]; simp [ih]
theorem isWord_mv {f : Nat → Nat} {v : Int} {n n' : Nat} (h : isWord v n = true) (hf : isRef v = true → f (cellN v).toNat < n') (hn : n' ≤ 2147483647) : isWord (mv f v) n' = true := by
  unfold mv
  by_cases hr : isRef v = true
  · rw [if_pos hr]
    have := hf hr
    obtain ⟨h1, h2, h3⟩ := refW_ok (f (cellN v).toNat) (by omega)
    unfold isWord
    rw [h1, h2, h3]
    simp; omega
  · rw [if_neg hr]
    unfold isWord at h ⊢
    have hr' : isRef v = false := by simpa using hr
    rw [hr'] at h ⊢
    simpa using h
/-- The walk of the heap numbered otherwise. -/
theorem ren_step {f : Nat → Nat} {P : Nat → Prop} (inj : ∀ a b, P a → P b → f a = f b → a = b) {s s' : BS} (r r' c : Nat) (hs : ∀ x ∈ s.1, P x) (he : s'.1 = s.1.map f) (hc : P c) :
    (bM r' s' (f c)).1 = (bM r s c).1.map f ∧ ∀ x ∈ (bM r s c).1, P x := by
  unfold bM
  have hiff : f c ∈ s'.1 ↔ c ∈ s.1 := by
    rw [he, List.mem_map]
    exact ⟨fun ⟨a, h1, h2⟩ => inj a c (hs a h1) hc h2 ▸ h1, fun h => ⟨c, h, rfl⟩⟩
  by_cases hm : c ∈ s.1
  · rw [if_pos hm, if_pos (hiff.2 hm)]; exact ⟨he, hs⟩
  · rw [if_neg hm, if_neg (fun h => hm (hiff.1 h))]
    refine ⟨by simp [he], fun x hx => ?_⟩
    simp at hx
    rcases hx with hx | rfl
    · exact hs x hx
    · exact hc
theorem ren_many {f : Nat → Nat} {P : Nat → Prop} (inj : ∀ a b, P a → P b → f a = f b → a = b) (r r' : Nat) : ∀ (cs : List Nat) {s s' : BS}, (∀ x ∈ s.1, P x) → s'.1 = s.1.map f → (∀ c ∈ cs, P c) →
    (bF r' s' (cs.map f)).1 = (bF r s cs).1.map f ∧ ∀ x ∈ (bF r s cs).1, P x
  | [], s, s', hs, he, _ => ⟨he, hs⟩
  | c :: cs, s, s', hs, he, hc => by
    obtain ⟨h1, h2⟩ := ren_step inj r r' c hs he (hc c (by simp))
    exact ren_many inj r r' cs h2 h1 (fun x hx => hc x (by simp [hx]))
theorem ren_loop {f : Nat → Nat} {P : Nat → Prop} {nb nb' : Nat → List Nat} (inj : ∀ a b, P a → P b → f a = f b → a = b) (cl : ∀ a, P a → ∀ c ∈ nb a, P c) (hnb : ∀ a, P a → nb' (f a) = (nb a).map f) :
    ∀ (k i : Nat) {s s' : BS}, (∀ x ∈ s.1, P x) → s'.1 = s.1.map f → (bL nb' k i s').1 = (bL nb k i s).1.map f
  | 0, i, s, s', hs, he => he
  | k + 1, i, s, s', hs, he => by
    rw [bL, bL]
    by_cases hi : i < s.1.length
    · have hi' : i < s'.1.length := by rw [he]; simpa using hi
      rw [if_pos hi, if_pos hi']
      have e1 : s'.1.getD i 0 = f (s.1.getD i 0) := by rw [he]; simp [List.getD_eq_getElem?_getD, hi]
      have hp := hs _ (Bf.getD_in s.1 i hi)
      rw [e1, hnb _ hp]
      obtain ⟨h1, h2⟩ := ren_many inj (s.2 (s.1.getD i 0) + 1) (s'.2 (f (s.1.getD i 0)) + 1) (nb (s.1.getD i 0)) hs he (cl _ hp)
      exact ren_loop inj cl hnb k (i + 1) h2 h1
    · have hi' : ¬ i < s'.1.length := by rw [he]; simpa using hi
      rw [if_neg hi, if_neg hi']; exact he
theorem fuel {nb : Nat → List Nat} : ∀ (k i e : Nat) (s : BS), (bL nb k i s).1.length ≤ i + k → bL nb (k + e) i s = bL nb k i s
  | 0, i, e, s, h => by
    cases e with
    | zero => rfl
    | succ e =>
      have h' : s.1.length ≤ i := by simpa [bL] using h
      show bL nb (0 + (e + 1)) i s = s
      rw [Nat.zero_add, bL, if_neg (Nat.not_lt.2 h')]
  | k + 1, i, e, s, h => by
    rw [bL] at h
    rw [show k + 1 + e = (k + e) + 1 by omega, bL, bL]
    split
    · next hi =>
      rw [if_pos hi] at h
      exact fuel k (i + 1) e _ (by omega)
    · rfl
theorem bfs_len {h : List Cel} {ws : List Int} (hm : may h ws = true) : (bfs (nf h) (refs ws) h.length).1.length ≤ h.length := by
  rw [← order_bfs hm]; exact (order_inv hm).le
theorem row_nf {h : List Cel} {ws : List Int} (hm : may h ws = true) (a : Nat) (ha : a ∈ (order h ws).2) : ∀ c ∈ nf h a, c ∈ (order h ws).2 := by
  rw [order_bfs hm] at ha ⊢
  intro c hc
  have B := bfsF_ok hm
  exact (B.cpl c _ (.step a c _ (B.snd a ha) hc)).1
theorem row_st {h : List Cel} {ws : List Int} (hm : may h ws = true) : ∀ c ∈ refs ws, c ∈ (order h ws).2 := by
  intro c hc
  rw [order_bfs hm]
  exact ((bfsF_ok hm).cpl c 0 (.src c hc)).1
theorem order_ren {h h' : List Cel} {ws ws' : List Int} {f : Nat → Nat} (hm : may h ws = true) (hm' : may h' ws' = true) (inj : ∀ a b, a ∈ (order h ws).2 → b ∈ (order h ws).2 → f a = f b → a = b)
    (hnf : ∀ c ∈ (order h ws).2, nf h' (f c) = (nf h c).map f) (hst : refs ws' = (refs ws).map f) : (order h' ws').2 = (order h ws).2.map f := by
  obtain ⟨a1, a2⟩ := ren_many (P := fun c => c ∈ (order h ws).2) inj 0 0 (refs ws) (s := ([], fun _ => 0)) (s' := ([], fun _ => 0)) (by simp) rfl (row_st hm)
  have key := ren_loop (nb := nf h) (nb' := nf h') inj (row_nf hm) hnf (h.length + 1 + (h'.length + 1)) 0 a2 a1
  have e1 := fuel (nb := nf h) (h.length + 1) 0 (h'.length + 1) (b0 (refs ws)) (by have := bfs_len hm; unfold bfs at this; omega)
  have e2 := fuel (nb := nf h') (h'.length + 1) 0 (h.length + 1) (b0 (refs ws')) (by have := bfs_len hm'; unfold bfs at this; omega)
  have b1 : b0 (refs ws) = bF 0 ([], fun _ => 0) (refs ws) := rfl
  have b2 : b0 (refs ws') = bF 0 ([], fun _ => 0) ((refs ws).map f) := by rw [hst]; rfl
  rw [← b1, ← b2, e1, show h.length + 1 + (h'.length + 1) = h'.length + 1 + (h.length + 1) by omega, e2] at key
  rw [order_bfs hm', order_bfs hm]; exact key
theorem nodup_inj {l : List Nat} (nd : l.Nodup) {i j : Nat} (hi : i < l.length) (hj : j < l.length) (e : l.getD i 0 = l.getD j 0) : i = j := by
  have e' : l[i] = l[j] := by simpa [List.getD_eq_getElem?_getD, hi, hj] using e
  rcases Nat.lt_trichotomy i j with h | h | h
  · exact absurd e' (List.pairwise_iff_getElem.1 nd i j hi hj h)
  · exact h
  · exact absurd e'.symm (List.pairwise_iff_getElem.1 nd j i hj hi h)
/-- Each cell's place is where it stands. -/
theorem placeK_row {n : Nat} {l : List Nat} (nd : l.Nodup) (hl : ∀ c ∈ l, c < n) : ∀ k, k ≤ l.length → ∀ j, j < k → (placeK n l k).getD (l.getD j 0) 0 = j
  | 0, _, j, hj => absurd hj (by omega)
  | k + 1, hk, j, hj => by
    have hm := hl _ (Bf.getD_in l k (by omega))
    rw [placeK]
    by_cases e : j = k
    · subst e
      rw [List.getD_eq_getElem?_getD (l := List.set _ _ _), List.getElem?_set_self (by rw [placeK_len]; exact hm)]; rfl
    · have hne : l.getD k 0 ≠ l.getD j 0 := fun he => e (nodup_inj nd (by omega) (by omega) he.symm)
      have ih := placeK_row nd hl k (by omega) j (by omega)
      rw [List.getD_eq_getElem?_getD, List.getElem?_set_ne hne, ← List.getD_eq_getElem?_getD]
      exact ih
theorem place_row {h : List Cel} {ws : List Int} (hm : may h ws = true) (j : Nat) (hj : j < (order h ws).2.length) : (place h ws).getD ((order h ws).2.getD j 0) 0 = j :=
  placeK_row (order_inv hm).nd (fun c hc => (((order_inv hm).mem c).1 hc).1) _ (Nat.le_refl _) j hj
theorem row_at {l : List Nat} {c : Nat} (h : c ∈ l) : ∃ j, j < l.length ∧ l.getD j 0 = c := by
  obtain ⟨j, hj, e⟩ := List.getElem_of_mem h
  exact ⟨j, hj, by rw [List.getD_eq_getElem?_getD, List.getElem?_eq_getElem hj]; exact e⟩
theorem place_lt {h : List Cel} {ws : List Int} (hm : may h ws = true) {c : Nat} (hc : c ∈ (order h ws).2) : (place h ws).getD c 0 < (order h ws).2.length := by
  obtain ⟨j, hj, rfl⟩ := row_at hc
  rw [place_row hm j hj]; exact hj
/-- A heap and its roots, numbered otherwise. -/
structure Ren (h : List Cel) (ws : List Int) (h' : List Cel) (ws' : List Int) (f : Nat → Nat) : Prop where
  hm : may h ws = true
  hm' : may h' ws' = true
  inj : ∀ a b, a ∈ (order h ws).2 → b ∈ (order h ws).2 → f a = f b → a = b
  knd : ∀ c ∈ (order h ws).2, (h'.getD (f c) z).k = (h.getD c z).k
  wda : ∀ c ∈ (order h ws).2, (h.getD c z).k ≠ 0 → (h'.getD (f c) z).a = mv f (h.getD c z).a ∧ (h'.getD (f c) z).b = mv f (h.getD c z).b
  rts : ws' = ws.map (mv f)
  big : ∀ c ∈ (order h ws).2, f c ≤ 2147483647
theorem Ren.order {h h' : List Cel} {ws ws' : List Int} {f : Nat → Nat} (R : Ren h ws h' ws' f) : (Gp.order h' ws').2 = (Gp.order h ws).2.map f := by
  refine order_ren R.hm R.hm' R.inj (fun c hc => ?_) ?_
  · have hb := refs_mv (f := f) (vs := wordsOf h c) (fun d hd => R.big d (row_nf R.hm c hc d hd))
    unfold nf
    rw [← hb]
    congr 1
    unfold wordsOf
    by_cases hk : (h.getD c z).k = 0
    · rw [if_pos hk, if_pos ((R.knd c hc).trans hk)]; rfl
    · rw [if_neg hk, if_neg (by rw [R.knd c hc]; exact hk), (R.wda c hc hk).1, (R.wda c hc hk).2]; rfl
  · rw [R.rts]; exact refs_mv (fun c hc => R.big c (row_st R.hm c hc))
theorem Ren.place {h h' : List Cel} {ws ws' : List Int} {f : Nat → Nat} (R : Ren h ws h' ws' f) (c : Nat) (hc : c ∈ (Gp.order h ws).2) : (place h' ws').getD (f c) 0 = (place h ws).getD c 0 := by
  obtain ⟨j, hj, rfl⟩ := row_at hc
  rw [place_row R.hm j hj]
  have := place_row R.hm' j (by rw [R.order]; simpa using hj)
  rw [R.order] at this
  rwa [show ((Gp.order h ws).2.map f).getD j 0 = f ((Gp.order h ws).2.getD j 0) by simp [List.getD_eq_getElem?_getD, hj]] at this
theorem Ren.moved {h h' : List Cel} {ws ws' : List Int} {f : Nat → Nat} (R : Ren h ws h' ws' f) (v : Int) (hv : isRef v = true → (cellN v).toNat ∈ (Gp.order h ws).2) : moved (Gr.place h' ws') (mv f v) = moved (Gr.place h ws) v := by
  obtain ⟨h1, h2⟩ := mv_ref (f := f) (v := v) (fun hr => R.big _ (hv hr))
  unfold Gr.moved
  rw [h1]
  by_cases hr : isRef v = true
  · rw [if_pos hr, if_pos hr, h2 hr, R.place _ (hv hr)]
  · rw [if_neg hr, if_neg hr]; unfold mv; rw [if_neg hr]
theorem Ren.form {h h' : List Cel} {ws ws' : List Int} {f : Nat → Nat} (R : Ren h ws h' ws' f) : formH h' ws' = formH h ws ∧ formW h' ws' = formW h ws := by
  unfold formH formW
  rw [if_pos R.hm, if_pos R.hm', if_pos R.hm, if_pos R.hm']
  constructor
  · rw [R.order, List.map_map]
    refine List.map_congr_left (fun c hc => ?_)
    show formC h' _ (f c) = _
    unfold formC
    by_cases hk : (h.getD c z).k = 0
    · rw [if_pos hk, if_pos ((R.knd c hc).trans hk)]
    · rw [if_neg hk, if_neg (by rw [R.knd c hc]; exact hk), R.knd c hc, (R.wda c hc hk).1, (R.wda c hc hk).2]
      have hin : ∀ v ∈ wordsOf h c, isRef v = true → (cellN v).toNat ∈ (Gp.order h ws).2 := fun v hv hr => row_nf R.hm c hc _ (refs_mem.2 ⟨v, hv, hr, rfl⟩)
      unfold wordsOf at hin
      rw [if_neg hk] at hin
      rw [R.moved _ (hin _ (by simp)), R.moved _ (hin _ (by simp))]
  · have hr := R.rts
    subst hr
    rw [List.map_map]
    refine List.map_congr_left (fun v hv => ?_)
    exact R.moved v (fun hr => row_st R.hm _ (refs_mem.2 ⟨v, hv, hr, rfl⟩))
/-- Form's form. -/
theorem may_iff {h : List Cel} {ws : List Int} : may h ws = true ↔ (∀ c, c < h.length → okCell h.length (h.getD c z) = true) ∧ ∀ v ∈ ws, isWord v h.length = true := by
  unfold may
  rw [Bool.and_eq_true, List.all_eq_true, List.all_eq_true]
  refine and_congr ⟨fun g c hc => ?_, fun g x hx => ?_⟩ Iff.rfl
  · rw [show h.getD c z = h[c] by simp [List.getD, hc]]; exact g _ (List.getElem_mem hc)
  · obtain ⟨c, hc, rfl⟩ := List.getElem_of_mem hx
    have := g c hc
    rwa [show h.getD c z = h[c] by simp [List.getD, hc]] at this
theorem okCell_iff {n : Nat} {x : Cel} : okCell n x = true ↔ x.k ≤ 3 ∧ x.c ≤ 2 ∧ (x.k ≠ 0 → isWord x.a n = true ∧ isWord x.b n = true) := by
  unfold okCell
  simp only [Bool.and_eq_true, Bool.or_eq_true, Bool.not_eq_true', decide_eq_false_iff_not, beq_iff_eq, Int.not_lt, and_assoc]
  constructor
  · rintro ⟨h1, h2, h3⟩
    exact ⟨h1, h2, fun hk => h3.resolve_left hk⟩
  · rintro ⟨h1, h2, h3⟩
    exact ⟨h1, h2, by
      by_cases hk : x.k = 0
      · exact .inl hk
      · exact .inr (h3 hk)⟩
theorem formH_at {h : List Cel} {ws : List Int} (hm : may h ws = true) (j : Nat) (hj : j < (order h ws).2.length) : (formH h ws).getD j z = formC h (place h ws) ((order h ws).2.getD j 0) := by
  unfold formH
  rw [if_pos hm]
  simp [List.getD_eq_getElem?_getD, hj]
theorem formH_len {h : List Cel} {ws : List Int} (hm : may h ws = true) : (formH h ws).length = (order h ws).2.length := by
  unfold formH; rw [if_pos hm]; simp
theorem moved_mv (pl : List Nat) (v : Int) : Gr.moved pl v = mv (fun c => pl.getD c 0) v := rfl
theorem form_ren {h : List Cel} {ws : List Int} (hm : may h ws = true) (hn : h.length ≤ 1000000) : Ren h ws (formH h ws) (formW h ws) (fun c => (place h ws).getD c 0) := by
  have hle := (order_inv hm).le
  obtain ⟨m1, m2⟩ := may_iff.1 hm
  have hW : ∀ v : Int, isWord v h.length = true → (isRef v = true → (cellN v).toNat ∈ (order h ws).2) → isWord (mv (fun c => (place h ws).getD c 0) v) (formH h ws).length = true := fun v hv hr =>
    isWord_mv hv (fun h => by rw [formH_len hm]; exact place_lt hm (hr h)) (by rw [formH_len hm]; omega)
  refine ⟨hm, may_iff.2 ⟨fun j hj => ?_, fun v hv => ?_⟩, fun a b ha hb e => ?_, fun c hc => ?_, fun c hc hk => ?_, ?_, fun c hc => ?_⟩
  · rw [formH_len hm] at hj
    rw [formH_at hm j hj]
    have hcr := Bf.getD_in (order h ws).2 j hj
    generalize (order h ws).2.getD j 0 = c at *
    have hc := (((order_inv hm).mem c).1 hcr).1
    obtain ⟨k1, k2, k3⟩ := okCell_iff.1 (m1 c hc)
    have hin : ∀ v ∈ wordsOf h c, isRef v = true → (cellN v).toNat ∈ (order h ws).2 := fun v hv hr => row_nf hm c hcr _ (refs_mem.2 ⟨v, hv, hr, rfl⟩)
    unfold formC
    by_cases hk : (h.getD c z).k = 0
    · rw [if_pos hk]; rfl
    · rw [if_neg hk]
      unfold wordsOf at hin
      rw [if_neg hk] at hin
      exact okCell_iff.2 ⟨k1, (by show (0 : Int) ≤ 2; omega), fun _ => ⟨hW _ (k3 hk).1 (hin _ (by simp)), hW _ (k3 hk).2 (hin _ (by simp))⟩⟩
  · unfold formW at hv
    rw [if_pos hm, List.mem_map] at hv
    obtain ⟨u, hu, rfl⟩ := hv
    exact hW u (m2 u hu) (fun hr => row_st hm _ (refs_mem.2 ⟨u, hu, hr, rfl⟩))
  · obtain ⟨i, hi, rfl⟩ := row_at ha
    obtain ⟨j, hj, rfl⟩ := row_at hb
    simp only [place_row hm i hi, place_row hm j hj] at e
    rw [e]
  · obtain ⟨j, hj, rfl⟩ := row_at hc
    simp only [place_row hm j hj]
    rw [formH_at hm j hj]
    unfold formC
    split
    · next h0 => exact h0.symm
    · rfl
  · obtain ⟨j, hj, rfl⟩ := row_at hc
    simp only [place_row hm j hj]
    rw [formH_at hm j hj]
    unfold formC
    rw [if_neg hk]
    exact ⟨rfl, rfl⟩
  · unfold formW; rw [if_pos hm]; rfl
  · have := place_lt hm hc
    show (place h ws).getD c 0 ≤ _
    omega
/-- THE FORM'S FORM IS THE FORM. -/
theorem form_form {h : List Cel} {ws : List Int} (hm : may h ws = true) (hn : h.length ≤ 1000000) : may (formH h ws) (formW h ws) = true ∧ formH (formH h ws) (formW h ws) = formH h ws ∧ formW (formH h ws) (formW h ws) = formW h ws :=
  ⟨(form_ren hm hn).hm', (form_ren hm hn).form⟩
/-- Two walks of which only one cell names others otherwise: it stands at the same place in both. -/
theorem bL_pre (nb : Nat → List Nat) : ∀ (k i : Nat) (s : BS), ∃ t, (bL nb k i s).1 = s.1 ++ t
  | 0, i, s => ⟨[], by simp [bL]⟩
  | k + 1, i, s => by
    rw [bL]
    split
    · obtain ⟨t, ht⟩ := bL_pre nb k (i + 1) (bF (s.2 (s.1.getD i 0) + 1) s (nb (s.1.getD i 0)))
      have : ∀ (r : Nat) (cs : List Nat) (s : BS), ∃ t, (bF r s cs).1 = s.1 ++ t := by
        intro r cs
        induction cs with
        | nil => exact fun s => ⟨[], by simp [bF]⟩
        | cons c cs ih =>
          intro s
          obtain ⟨t, ht⟩ := ih (bM r s c)
          have : ∃ u, (bM r s c).1 = s.1 ++ u := by
            unfold bM; split
            · exact ⟨[], by simp⟩
            · exact ⟨[c], rfl⟩
          obtain ⟨u, hu⟩ := this
          exact ⟨u ++ t, by rw [show bF r s (c :: cs) = bF r (bM r s c) cs from rfl, ht, hu, List.append_assoc]⟩
      obtain ⟨u, hu⟩ := this (s.2 (s.1.getD i 0) + 1) (nb (s.1.getD i 0)) s
      exact ⟨u ++ t, by rw [ht, hu, List.append_assoc]⟩
    · exact ⟨[], by simp⟩
theorem two_walks {nb nb' : Nat → List Nat} {c : Nat} (he : ∀ d, d ≠ c → nb' d = nb d) : ∀ (k i : Nat) (s : BS), (∀ j, j < i → j < s.1.length → s.1.getD j 0 ≠ c) → c ∈ (bL nb k i s).1 → (bL nb k i s).1.length ≤ i + k →
    ∃ q : Nat, (bL nb k i s).1[q]? = some c ∧ (bL nb' k i s).1[q]? = some c
  | 0, i, s, hj, hc, hl => by
    obtain ⟨j, h1, h2⟩ := row_at (show c ∈ s.1 from hc)
    exact absurd h2 (hj j (by simp [bL] at hl; omega) h1)
  | k + 1, i, s, hj, hc, hl => by
    by_cases hi : i < s.1.length
    · by_cases e : s.1.getD i 0 = c
      · have hat : s.1[i]? = some c := by
          rw [List.getElem?_eq_getElem hi, ← e]; simp [List.getD_eq_getElem?_getD, hi]
        obtain ⟨t, ht⟩ := bL_pre nb (k + 1) i s
        obtain ⟨u, hu⟩ := bL_pre nb' (k + 1) i s
        exact ⟨i, by rw [ht, List.getElem?_append_left hi]; exact hat, by rw [hu, List.getElem?_append_left hi]; exact hat⟩
      · rw [bL, if_pos hi] at hc hl ⊢
        rw [bL, if_pos hi, he _ e]
        refine two_walks he k (i + 1) _ (fun j h1 h2 => ?_) hc (by omega)
        obtain ⟨t, ht⟩ : ∃ t, (bF (s.2 (s.1.getD i 0) + 1) s (nb (s.1.getD i 0))).1 = s.1 ++ t := by
          have := bL_pre nb 1 i s
          rw [bL, if_pos hi] at this
          exact this
        rw [ht]
        rcases Nat.lt_or_ge j i with h3 | h3
        · rw [Bf.getD_pre _ _ _ (by omega)]; exact hj j h3 (by omega)
        · obtain rfl : j = i := by omega
          rw [Bf.getD_pre _ _ _ hi]; exact e
    · rw [bL, if_neg hi] at hc hl
      obtain ⟨j, h1, h2⟩ := row_at hc
      exact absurd h2 (hj j (by omega) h1)
/-- ANOTHER WORD IN A CELL THAT IS REACHED: ANOTHER FORM. -/
theorem form_turned {h : List Cel} {ws : List Int} (hm : may h ws = true) {c : Nat} (hc : c ∈ (order h ws).2) (hk : (h.getD c z).k ≠ 0) {w : Int} (hw : isRef w = false) (how : ofOk w = true) (hne : (h.getD c z).a ≠ w) :
    may (h.set c { h.getD c z with a := w }) ws = true ∧ formH (h.set c { h.getD c z with a := w }) ws ≠ formH h ws := by
  have hcl := (((order_inv hm).mem c).1 hc).1
  have hat : ∀ d, (h.set c { h.getD c z with a := w }).getD d z = if d = c then { h.getD c z with a := w } else h.getD d z := fun d => by
    by_cases e : d = c
    · subst e; rw [if_pos rfl]; simp [List.getD_eq_getElem?_getD, hcl]
    · rw [if_neg e, List.getD_eq_getElem?_getD, List.getElem?_set_ne (Ne.symm e), ← List.getD_eq_getElem?_getD]
  have hm' : may (h.set c { h.getD c z with a := w }) ws = true := by
    obtain ⟨m1, m2⟩ := may_iff.1 hm
    refine may_iff.2 ⟨fun d hd => ?_, fun v hv => by simpa using m2 v hv⟩
    simp only [List.length_set] at hd ⊢
    rw [hat d]
    split
    · next e =>
      obtain ⟨k1, k2, k3⟩ := okCell_iff.1 (m1 c hcl)
      exact okCell_iff.2 ⟨k1, k2, fun hk => ⟨by unfold isWord; rw [hw, how]; rfl, (k3 hk).2⟩⟩
    · exact m1 d hd
  refine ⟨hm', fun hf => ?_⟩
  generalize hh' : h.set c { h.getD c z with a := w } = h' at *
  have hl' : h'.length = h.length := by rw [← hh']; simp
  have hnf : ∀ d, d ≠ c → nf h' d = nf h d := fun d e => by unfold nf wordsOf; rw [hat d, if_neg e]
  have hrow := hc
  rw [order_bfs hm] at hrow
  have hlen := bfs_len hm
  unfold bfs at hrow hlen
  obtain ⟨q, q1, q2⟩ := two_walks hnf (h.length + 1) 0 (b0 (refs ws)) (fun j hj => absurd hj (by omega)) hrow (by omega)
  have o1 := order_bfs hm
  have o2 := order_bfs hm'
  unfold bfs at o1 o2
  rw [hl'] at o2
  rw [← o1] at q1
  rw [← o2] at q2
  have p1 : (formH h ws)[q]? = some (formC h (place h ws) c) := by unfold formH; rw [if_pos hm, List.getElem?_map, q1]; rfl
  have p2 : (formH h' ws)[q]? = some (formC h' (place h' ws) c) := by unfold formH; rw [if_pos hm', List.getElem?_map, q2]; rfl
  rw [hf, p1] at p2
  have e := Option.some.inj p2
  unfold formC at e
  rw [if_neg hk, hat c, if_pos rfl, if_neg hk] at e
  simp only [Cel.mk.injEq] at e
  obtain ⟨_, _, e, _⟩ := e
  unfold Gr.moved at e
  rw [hw] at e
  simp only [Bool.false_eq_true, if_false] at e
  by_cases hr : isRef (h.getD c z).a = true
  · rw [if_pos hr] at e
    have hle := (placeK_le h.length (order h ws).2 (order h ws).2.length (cellN (h.getD c z).a).toNat)
    have hcn := place_lt hm (row_nf hm c hc _ (refs_mem.2 ⟨(h.getD c z).a, by unfold wordsOf; rw [if_neg hk]; simp, hr, rfl⟩))
    have hT : isRef (refW ((place h ws).getD (cellN (h.getD c z).a).toNat 0 : Nat)) = isRef w := by rw [e]
    unfold refW at hT
    rw [hw] at hT
    by_cases ho : mkOk 8 ((place h ws).getD (cellN (h.getD c z).a).toNat 0 : Nat) = true
    · obtain ⟨g1, g2, g3⟩ := of_mk 8 _ ho
      have : isRef (mkW 8 ((place h ws).getD (cellN (h.getD c z).a).toNat 0 : Nat)) = true := by unfold isRef ofT; rw [if_pos g1, g2]; rfl
      rw [this] at hT; cases hT
    · unfold refW mkW at e
      rw [if_neg ho] at e
      rw [← e] at how
      revert how; decide
  · rw [if_neg hr] at e
    exact hne e
end Go.Proofs.YtggijcebobjghaaDoor.Fo
