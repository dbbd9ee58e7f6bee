/-
  THE PLAIN LAW of BarrierDead (no program): what was dead stays white, what was filled meanwhile is black.
-/
import Derived.Test.YtlhhcocdhkbdnaaDoorQJKeepP8
set_option linter.unusedVariables false
set_option linter.unusedSimpArgs false
namespace Go.Proofs.YtlhhcocdhkbdnaaDoor.Kp
open Go.RowKit Go.Proofs.YtlhhcocdhkbdnaaDoor.Wd Go.Proofs.YtlhhcocdhkbdnaaDoor.Hp Go.Proofs.YtlhhcocdhkbdnaaDoor.Gp Go.Proofs.YtlhhcocdhkbdnaaDoor.Sm Go.Proofs.YtlhhcocdhkbdnaaDoor.Gr Go.Proofs.YtlhhcocdhkbdnaaDoor.Bp
/-- A cell that is used. -/
abbrev us (v : Vw) (i : Nat) : Prop := nofree (cel v i) = true
/-- A word that names no used cell outside L. -/
def Gd (v : Vw) (L : Nat → Prop) (x : Int) : Prop := isRef x = true → us v (cl x) → L (cl x)
/-- What roots and the cells of L name lies in L, and what is not white. -/
structure J (v : Vw) (L : Nat → Prop) : Prop where
  gl : ∀ x ∈ v.globals, Gd v L x
  rt : ∀ l ∈ v.lanes, ∀ x ∈ l.roots, Gd v L x
  cs : ∀ d, us v d → L d → ∀ x, (x = (cel v d).a ∨ x = (cel v d).b) → Gd v L x
  co : ∀ d, us v d → (cel v d).c ≠ 0 → L d
/-- The same cells are used; what is black stays so. -/
structure Ss (v v' : Vw) : Prop where
  us : ∀ d, us v' d ↔ us v d
  bk : ∀ d, Kp.us v d → (cel v d).c = 2 → (cel v' d).c = 2
theorem Ss.refl (v : Vw) : Ss v v := ⟨fun _ => Iff.rfl, fun _ _ h => h⟩
theorem Ss.trans {a b c : Vw} (h : Ss a b) (k : Ss b c) : Ss a c := ⟨fun d => (k.us d).trans (h.us d), fun d h1 h2 => k.bk d ((h.us d).2 h1) (h.bk d h1 h2)⟩
theorem Gd.ss {v v' : Vw} {L : Nat → Prop} (h : Ss v v') {x : Int} (g : Gd v L x) : Gd v' L x := fun hr hu => g hr ((h.us _).1 hu)
theorem gd_i3 (v : Vw) (L : Nat → Prop) : Gd v L i3 := fun h => by rw [i3_ok.1] at h; cases h
theorem J.val {v : Vw} {L : Nat → Prop} (h : J v L) {j : Nat} (hj : j < v.lanes.length) (c : Int) : Gd v L (valK (v.lanes.getD j ln0) c) := by
  rcases val_ok (v.lanes.getD j ln0) c with e | e
  · rw [e]; exact gd_i3 v L
  · exact h.rt _ (getD_memD ln0 hj) _ e
theorem shade_src (h : List Cel) (ws : List Int) : ∀ c ∈ shadeL h ws, ∃ x ∈ ws, isRef x = true ∧ cl x = c := by
  have key : ∀ (ws : List Int) (out : List Nat) (P : Nat → Prop), (∀ c ∈ out, P c) → (∀ x ∈ ws, isRef x = true → P (cl x)) → ∀ c ∈ ws.foldl (shade1 h) out, P c := by
    intro ws
    induction ws with
    | nil => exact fun out P h1 _ => h1
    | cons x ws ih =>
      intro out P h1 h2
      rw [List.foldl_cons]
      refine ih _ P (fun c hc => ?_) (fun y hy => h2 y (by simp [hy]))
      unfold shade1 at hc
      split at hc
      · rename_i hb
        simp only [Bool.and_eq_true] at hb
        rcases List.mem_append.1 hc with e | e
        · exact h1 c e
        · rw [List.mem_singleton.1 e]; exact h2 x (by simp) hb.1
      · exact h1 c hc
  exact key ws [] _ (by simp) (fun x hx hr => ⟨x, hx, hr, rfl⟩)
theorem store_src (p : Int) (s : Bool) (a b : Int) (h : List Cel) : ∀ c ∈ storeL p s a b h, (isRef a = true ∧ cl a = c) ∨ (isRef b = true ∧ cl b = c) := by
  intro c hc
  unfold storeL at hc
  split at hc
  · split at hc
    · obtain ⟨x, hx, h1, h2⟩ := shade_src h _ c hc
      rw [List.mem_singleton.1 hx] at h1 h2; exact .inl ⟨h1, h2⟩
    · obtain ⟨x, hx, h1, h2⟩ := shade_src h _ c hc
      simp at hx
      rcases hx with e | e <;> rw [e] at h1 h2
      · exact .inl ⟨h1, h2⟩
      · exact .inr ⟨h1, h2⟩
  · cases hc
theorem fill_src (p : Int) (s : Bool) (a b : Int) (h : List Cel) : ∀ c ∈ fillL p s a b h, (isRef a = true ∧ cl a = c) ∨ (isRef b = true ∧ cl b = c) := by
  intro c hc
  unfold fillL at hc
  split at hc
  · obtain ⟨x, hx, h1, h2⟩ := shade_src h _ c hc
    simp at hx
    rcases hx with e | e <;> rw [e] at h1 h2
    · exact .inl ⟨h1, h2⟩
    · exact .inr ⟨h1, h2⟩
  · cases hc
theorem wh_us {v : Vw} {c : Nat} (h : wh v c) : us v c := by
  unfold us nofree; unfold wh whiteC at h; simp only [Bool.and_eq_true] at h; exact h.1
/-- What two good words name may be shaded. -/
theorem src_L {v : Vw} {L : Nat → Prop} {S : List Nat} (hs : SOk v S) {a b : Int} (ha : Gd v L a) (hb : Gd v L b) (h : ∀ c ∈ S, (isRef a = true ∧ cl a = c) ∨ (isRef b = true ∧ cl b = c)) : ∀ c ∈ S, L c := by
  intro c hc
  have hu := wh_us (hs.w c hc)
  rcases h c hc with ⟨r, e⟩ | ⟨r, e⟩
  · have := ha r (by rw [e]; exact hu); rwa [e] at this
  · have := hb r (by rw [e]; exact hu); rwa [e] at this
theorem shade_us {v : Vw} {S : List Nat} (hs : SOk v S) (d : Nat) : us (shadeV v S) d ↔ us v d := by
  unfold us nofree; rw [(shade_word hs d).1]
theorem J.shade {v : Vw} {L : Nat → Prop} (h : J v L) {S : List Nat} (hs : SOk v S) (hl : ∀ c ∈ S, L c) : J (shadeV v S) L ∧ Ss v (shadeV v S) := by
  have ss : Ss v (shadeV v S) := ⟨shade_us hs, fun d hu h2 => by
    rw [hs.at]
    split
    · rename_i hm
      have := hs.w d hm
      unfold wh whiteC at this; simp only [Bool.and_eq_true, beq_iff_eq] at this; rw [this.2] at h2; cases h2
    · exact h2⟩
  refine ⟨⟨fun x hx => (h.gl x hx).ss ss, fun l hl x hx => (h.rt l hl x hx).ss ss, fun d hu hL x hx => ?_, fun d hu hc => ?_⟩, ss⟩
  · rw [(shade_word hs d).2.1, (shade_word hs d).2.2] at hx
    exact (h.cs d ((ss.us d).1 hu) hL x hx).ss ss
  · rw [hs.at] at hc
    split at hc
    · rename_i hm; exact hl d hm
    · exact h.co d ((ss.us d).1 hu) hc
theorem J.setL {v : Vw} {L : Nat → Prop} (h : J v L) {j : Nat} {l : Ln} (hl : ∀ x ∈ l.roots, Gd v L x) : J (setL v j l) L ∧ Ss v (setL v j l) :=
  ⟨⟨h.gl, fun m hm x hx => by
    rcases mem_set_of hm with e | e
    · exact h.rt m e x hx
    · rw [e] at hx; exact hl x hx, h.cs, h.co⟩, ⟨fun _ => Iff.rfl, fun _ _ h => h⟩⟩
theorem J.takes {v : Vw} {L : Nat → Prop} (h : J v L) {j : Nat} (hj : j < v.lanes.length) {x : Int} (hx : Gd v L x) : J (Kp.setL v j (takesK (v.lanes.getD j ln0) x)) L ∧ Ss v (Kp.setL v j (takesK (v.lanes.getD j ln0) x)) :=
  h.setL (fun y hy => by
    rcases takes_mem hy with e | e
    · exact h.rt _ (getD_memD ln0 hj) y e
    · rw [e]; exact hx)
theorem J.addL {v : Vw} {L : Nat → Prop} (h : J v L) {l : Ln} (hl : ∀ x ∈ l.roots, Gd v L x) : J (addL v l) L ∧ Ss v (addL v l) :=
  ⟨⟨h.gl, fun m hm x hx => by
    rcases List.mem_append.1 hm with e | e
    · exact h.rt m e x hx
    · rw [List.mem_singleton.1 e] at hx; exact hl x hx, h.cs, h.co⟩, ⟨fun _ => Iff.rfl, fun _ _ h => h⟩⟩
theorem J.setG {v : Vw} {L : Nat → Prop} (h : J v L) {k : Nat} {x : Int} (hx : Gd v L x) : J (setG v k x) L ∧ Ss v (setG v k x) :=
  ⟨⟨fun y hy => by
    rcases mem_set_of hy with e | e
    · exact h.gl y e
    · rw [e]; exact hx, h.rt, h.cs, h.co⟩, ⟨fun _ => Iff.rfl, fun _ _ h => h⟩⟩
theorem J.setW {v : Vw} {L : Nat → Prop} (h : J v L) {d : Nat} {f : Bool} {x : Int} (hd : d < v.cells.length) (hx : Gd v L x) : J (setW v d f x) L ∧ Ss v (setW v d f x) := by
  have kc := setW_kc v d f x hd
  have ss : Ss v (Kp.setW v d f x) := ⟨fun i => by unfold us nofree; rw [(kc i).1], fun i _ h2 => by rw [(kc i).2]; exact h2⟩
  refine ⟨⟨fun y hy => (h.gl y hy).ss ss, fun l hl y hy => (h.rt l hl y hy).ss ss, fun i hu hL y hy => ?_, fun i hu hc => ?_⟩, ss⟩
  · rw [setW_at v d f x hd] at hy
    have hu' := (ss.us i).1 hu
    split at hy
    · rename_i e; subst e
      rcases fset_words _ _ _ _ hy with e | e
      · rw [e]; exact hx.ss ss
      · exact (h.cs i hu' hL y e).ss ss
    · exact (h.cs i hu' hL y hy).ss ss
  · rw [(kc i).2] at hc; exact h.co i ((ss.us i).1 hu) hc
theorem J.black {v : Vw} {L : Nat → Prop} (h : J v L) {d : Nat} (hd : d < v.cells.length) (hL : L d) : J (blackV v d) L ∧ Ss v (blackV v d) := by
  have e : ∀ i, cel (blackV v d) i = if i = d then { cel v d with c := 2 } else cel v i := fun i => getD_setZ _ _ _ _ hd
  have ss : Ss v (blackV v d) := ⟨fun i => by
    unfold us; rw [e]
    split
    · rename_i e1; subst e1; exact Iff.rfl
    · exact Iff.rfl, fun i _ h2 => by
    rw [e]
    split
    · rfl
    · exact h2⟩
  refine ⟨⟨fun y hy => (h.gl y hy).ss ss, fun l hl y hy => (h.rt l hl y hy).ss ss, fun i hu hLi y hy => ?_, fun i hu hc => ?_⟩, ss⟩
  · rw [e] at hy
    have hu' := (ss.us i).1 hu
    split at hy
    · rename_i e1; subst e1; exact (h.cs i hu' hLi y hy).ss ss
    · exact (h.cs i hu' hLi y hy).ss ss
  · rw [e] at hc
    split at hc
    · rename_i e1; subst e1; exact hL
    · exact h.co i ((ss.us i).1 hu) hc
/-- L behind a step: what was filled is in it. -/
def Lg (v v' : Vw) (L : Nat → Prop) (i : Nat) : Prop := L i ∨ (¬ us v i ∧ us v' i)
theorem J.congr {v : Vw} {L M : Nat → Prop} (h : J v L) (e : ∀ i, L i ↔ M i) : J v M := by
  have : L = M := funext fun i => propext (e i)
  rw [← this]; exact h
theorem lg_same {v v' : Vw} {L : Nat → Prop} (h : Ss v v') (i : Nat) : L i ↔ Lg v v' L i := ⟨.inl, fun k => k.elim id (fun ⟨a, b⟩ => absurd ((h.us i).1 b) a)⟩
/-- What a step leaves. -/
structure Jn (v v' : Vw) (L : Nat → Prop) : Prop where
  j : J v' (Lg v v' L)
  keep : ∀ d, us v d → us v' d
  bk : ∀ d, us v d → (cel v d).c = 2 → (cel v' d).c = 2
  new : ∀ d, ¬ us v d → us v' d → (cel v' d).c = 2
  len : v'.cells.length = v.cells.length
theorem Jn.of {v v' : Vw} {L : Nat → Prop} (h : J v' L ∧ Ss v v') (hl : v'.cells.length = v.cells.length) : Jn v v' L :=
  ⟨h.1.congr (lg_same h.2), fun d hu => (h.2.us d).2 hu, h.2.bk, fun d hu hu' => absurd ((h.2.us d).1 hu') hu, hl⟩
theorem Jn.same {v : Vw} {L : Nat → Prop} (h : J v L) : Jn v v L := Jn.of ⟨h, Ss.refl v⟩ rfl
theorem Jn.then {v v1 v' : Vw} {L : Nat → Prop} (h : Jn v v1 L) (k : J v' (Lg v v1 L) ∧ Ss v1 v') (l1 : v'.cells.length = v1.cells.length) : Jn v v' L :=
  ⟨k.1.congr (fun i => by unfold Lg; rw [k.2.us i]), fun d hu => (k.2.us d).2 (h.keep d hu), fun d hu hc => k.2.bk d (h.keep d hu) (h.bk d hu hc), fun d hu hu' => k.2.bk d ((k.2.us d).1 hu') (h.new d hu ((k.2.us d).1 hu')), l1.trans h.len⟩
theorem Jn.comp {v v1 v' : Vw} {L : Nat → Prop} (s : Ss v v1) (l1 : v1.cells.length = v.cells.length) (h : Jn v1 v' L) : Jn v v' L :=
  ⟨h.j.congr (fun i => by unfold Lg; rw [s.us i]), fun d hu => h.keep d ((s.us d).2 hu), fun d hu hc => h.bk d ((s.us d).2 hu) (s.bk d hu hc), fun d hu hu' => h.new d (fun e => hu ((s.us d).1 e)) hu', h.len.trans l1⟩
theorem sh_len (v : Vw) (S : List Nat) : (shadeV v S).cells.length = v.cells.length := gray_len _ _
section
variable {v : Vw} {L : Nat → Prop}
theorem cel_L (h : J v L) {j : Nat} (hj : j < v.lanes.length) {c : Int} {d : Nat} (hd : celK v (v.lanes.getD j ln0) c = some d) : us v d ∧ L d := by
  obtain ⟨r, hr, hrr, hrd, hnf⟩ := cel_ok hd
  refine ⟨hnf, ?_⟩
  have := h.rt _ (getD_memD ln0 hj) r hr hrr (by rw [hrd]; exact hnf)
  rwa [hrd] at this
theorem load_jn (h : J v L) {j : Nat} (hj : j < v.lanes.length) (s : S5) : Jn v (loadV v j s) L := by
  unfold loadV
  split
  · exact Jn.same h
  · rename_i d hd
    obtain ⟨h1, h2⟩ := cel_L h hj hd
    exact Jn.of (h.takes hj (h.cs d h1 h2 _ (fget_or _ _))) rfl
theorem glob_jn (h : J v L) {j : Nat} (hj : j < v.lanes.length) (s : S5) : Jn v (globV v j s) L := by
  unfold globV
  split
  · rename_i h0
    exact Jn.of (h.takes hj (h.gl _ (getD_memD 0 (pick_lt _ h0)))) rfl
  · exact Jn.same h
theorem store_jn (h : J v L) {j : Nat} (hj : j < v.lanes.length) (s : S5) : Jn v (storeV v j s) L := by
  unfold storeV
  split
  · exact Jn.same h
  · rename_i d hd
    obtain ⟨h1, h2⟩ := cel_L h hj hd
    have hv := h.val hj s.c
    have hs := store_sok v (v.lanes.getD j ln0).sc (fget (cel v d) (odd s.b)) (valK (v.lanes.getD j ln0) s.c)
    obtain ⟨k1, k2⟩ := h.shade hs (src_L hs (h.cs d h1 h2 _ (fget_or _ _)) hv (store_src _ _ _ _ _))
    obtain ⟨k3, k4⟩ := k1.setW (d := d) (f := odd s.b) (by rw [sh_len]; exact nofree_lt h1) (hv.ss k2)
    exact Jn.of ⟨k3, k2.trans k4⟩ (List.length_set.trans (sh_len _ _))
theorem lay_jn (h : J v L) {j : Nat} (hj : j < v.lanes.length) (s : S5) : Jn v (layV v j s) L := by
  unfold layV
  split
  · rename_i h0
    have hv := h.val hj s.c
    have hs := store_sok v (v.lanes.getD j ln0).sc (v.globals.getD (pickN s.a v.globals.length) 0) (valK (v.lanes.getD j ln0) s.c)
    obtain ⟨k1, k2⟩ := h.shade hs (src_L hs (h.gl _ (getD_memD 0 (pick_lt _ h0))) hv (store_src _ _ _ _ _))
    obtain ⟨k3, k4⟩ := k1.setG (k := pickN s.a v.globals.length) (hv.ss k2)
    exact Jn.of ⟨k3, k2.trans k4⟩ (sh_len _ _)
  · exact Jn.same h
theorem fillV_jn (h : J v L) {d : Nat} {k a b : Int} (hd : d < v.cells.length) (hk : 1 ≤ k) (h0 : ¬ us v d) (ha : Gd v L a) (hb : Gd v L b) : Jn v (fillV v d k a b) L := by
  have e : ∀ i, cel (fillV v d k a b) i = if i = d then ⟨k, 2, a, b⟩ else cel v i := fun i => getD_setZ _ _ _ _ hd
  have hu : ∀ i, us (fillV v d k a b) i ↔ us v i ∨ i = d := fun i => by
    unfold us; rw [e]
    split
    · rename_i e1
      constructor
      · exact fun _ => .inr e1
      · intro _; unfold nofree; simp; omega
    · rename_i e1
      exact ⟨.inl, fun k => k.elim id (fun k => absurd k e1)⟩
  have hg : ∀ x, Gd v L x → Gd (fillV v d k a b) (Lg v (fillV v d k a b) L) x := fun x g hr hx => by
    rcases (hu _).1 hx with e1 | e1
    · exact .inl (g hr e1)
    · rw [e1]; exact .inr ⟨h0, (hu d).2 (.inr rfl)⟩
  refine ⟨⟨fun x hx => hg x (h.gl x hx), fun l hl x hx => hg x (h.rt l hl x hx), fun i hi hL x hx => ?_, fun i hi hc => ?_⟩, fun i hi => (hu i).2 (.inl hi), fun i hi hc => ?_, fun i hi hi' => ?_, List.length_set⟩
  · rw [e] at hx
    split at hx
    · rcases hx with e2 | e2
      · rw [e2]; exact hg a ha
      · rw [e2]; exact hg b hb
    · rename_i e1
      have hi2 : us v i := ((hu i).1 hi).resolve_right e1
      exact hg x (h.cs i hi2 (hL.elim id (fun k => absurd hi2 k.1)) x hx)
  · by_cases e1 : i = d
    · subst e1; exact .inr ⟨h0, hi⟩
    · rw [e, if_neg e1] at hc
      exact .inl (h.co i (((hu i).1 hi).resolve_right e1) hc)
  · rw [e]
    split
    · rfl
    · exact hc
  · rw [e]
    split
    · rfl
    · rename_i e1; exact absurd (((hu i).1 hi').resolve_right e1) hi
theorem fill_jn (h : J v L) (hnc : v.cells.length ≤ 60) {j : Nat} (hj : j < v.lanes.length) (s : S5) : Jn v (fillS v j s) L := by
  unfold fillS
  split
  · exact Jn.same h
  · rename_i d hd
    have hdl : d < v.cells.length := List.mem_range.1 (List.mem_of_find?_eq_some hd)
    have hdk : (cel v d).k = 0 := by have := List.find?_some hd; simpa using this
    have ha := h.val hj s.a
    have hb := h.val hj s.b
    have hs := fill_sok v (v.lanes.getD j ln0).sc (valK (v.lanes.getD j ln0) s.a) (valK (v.lanes.getD j ln0) s.b)
    obtain ⟨k1, k2⟩ := h.shade hs (src_L hs ha hb (fill_src _ _ _ _ _))
    have hp := pick_lt s.c (show 0 < 3 by omega)
    have hdu : ¬ us (shadeV v (fillL v.ph (v.lanes.getD j ln0).sc (valK (v.lanes.getD j ln0) s.a) (valK (v.lanes.getD j ln0) s.b) v.cells)) d := fun e => by
      have := (k2.us d).1 e; unfold us nofree at this; rw [hdk] at this; simp at this
    have q := fillV_jn (k := 1 + (pickN s.c 3 : Nat)) k1 (by rw [sh_len]; exact hdl) (by omega) hdu (ha.ss k2) (hb.ss k2)
    have q2 := Jn.comp k2 (sh_len _ _) q
    refine Jn.then q2 (q2.j.takes hj (fun hr hx => ?_)) rfl
    obtain ⟨r1, r2, r3, r4⟩ := refW_ok d (by omega)
    have hcl : cl (refW d) = d := by unfold cl; rw [r2]; simp
    rw [hcl] at hx ⊢
    exact .inr ⟨fun e => hdu ((k2.us d).2 e), hx⟩
theorem drop_jn (h : J v L) {j : Nat} (hj : j < v.lanes.length) (s : S5) : Jn v (dropV v j s) L := by
  unfold dropV
  split
  · refine Jn.of (h.setL (fun x hx => ?_)) rfl
    rcases List.mem_append.1 hx with e | e
    · exact h.rt _ (getD_memD ln0 hj) x (List.mem_of_mem_take e)
    · exact h.rt _ (getD_memD ln0 hj) x (List.mem_of_mem_drop e)
  · exact Jn.same h
theorem end_jn (h : J v L) {j : Nat} (hj : j < v.lanes.length) (s : S5) : Jn v (endV v j s) L :=
  Jn.of (h.setL (fun x hx => by rw [List.mem_singleton.1 hx]; exact h.val hj s.a)) rfl
theorem join_jn (h : J v L) {j : Nat} (hj : j < v.lanes.length) (s : S5) : Jn v (joinV v j s) L := by
  unfold joinV
  split
  · rename_i hc
    exact Jn.of (h.takes hj (h.rt _ (getD_memD ln0 (pick_lt s.a (show 0 < v.lanes.length by omega))) _ (getD_memD 0 (pick_lt _ hc.2)))) rfl
  · exact Jn.same h
theorem laneS_jn (h : J v L) (hnc : v.cells.length ≤ 60) {j : Nat} (hj : j < v.lanes.length) (s : S5) : Jn v (laneS v j s) L := by
  unfold laneS
  split
  · exact load_jn h hj s
  split
  · exact glob_jn h hj s
  split
  · exact store_jn h hj s
  split
  · exact lay_jn h hj s
  split
  · exact fill_jn h hnc hj s
  split
  · exact drop_jn h hj s
  split
  · exact end_jn h hj s
  split
  · exact join_jn h hj s
  exact Jn.same h
theorem spawn_jn (h : J v L) {j : Nat} (hj : j < v.lanes.length) (s : S5) : Jn v (spawnV v j s) L := by
  unfold spawnV
  split
  · refine Jn.of (h.addL (fun x hx => ?_)) rfl
    simp at hx
    rcases hx with e | e <;> rw [e]
    · exact h.val hj s.a
    · exact h.val hj s.b
  · exact Jn.same h
theorem J.laid (h : J v L) : J (laidV v) L ∧ Ss v (laidV v) := ⟨⟨h.gl, h.rt, h.cs, h.co⟩, ⟨fun _ => Iff.rfl, fun _ _ h => h⟩⟩
theorem root_jn (h : J v L) (h0 : 0 ≤ v.laid) : Jn v (rootV v) L := by
  unfold rootV
  split
  · rename_i hl
    have hg : Gd v L (v.globals.getD v.laid.toNat 0) := h.gl _ (getD_memD 0 (by omega))
    obtain ⟨k1, k2⟩ := h.laid
    have hs : SOk (laidV v) (storeL v.ph false (v.globals.getD v.laid.toNat 0) (v.globals.getD v.laid.toNat 0) v.cells) := store_sok (laidV v) false _ _
    obtain ⟨k3, k4⟩ := k1.shade hs (src_L hs (hg.ss k2) (hg.ss k2) (store_src _ _ _ _ _))
    exact Jn.of ⟨k3, k2.trans k4⟩ (sh_len _ _)
  · exact Jn.same h
theorem scanK_jn : ∀ (rs : List Int) {v : Vw} {L : Nat → Prop}, J v L → (∀ x ∈ rs, Gd v L x) → J (scanK v rs) L ∧ Ss v (scanK v rs)
  | [], v, L, h, _ => ⟨h, Ss.refl v⟩
  | r :: rs, v, L, h, hr => by
    have hs := store_sok v false r r
    have hg := hr r (by simp)
    obtain ⟨k1, k2⟩ := h.shade hs (src_L hs hg hg (store_src _ _ _ _ _))
    obtain ⟨k3, k4⟩ := scanK_jn rs k1 (fun x hx => (hr x (by simp [hx])).ss k2)
    exact ⟨k3, k2.trans k4⟩
theorem scan_jn (h : J v L) {j : Nat} (hj : j < v.lanes.length) : Jn v (scanV v j) L := by
  have hr := h.rt _ (getD_memD ln0 hj)
  obtain ⟨k1, k2⟩ := h.setL (j := j) (l := { v.lanes.getD j ln0 with sc := true }) hr
  obtain ⟨k3, k4⟩ := scanK_jn (v.lanes.getD j ln0).roots k1 (fun x hx => (hr x hx).ss k2)
  exact Jn.of ⟨k3, k2.trans k4⟩ (scan_same v j).2.2.2
theorem into_jn (gv : GV v) (h : J v L) : Jn v (intoV v) L := by
  cases hg : v.grey with
  | nil =>
    have e : intoV v = v := by unfold intoV; rw [hg]
    rw [e]; exact Jn.same h
  | cons c g =>
    obtain ⟨e1, e2, e3, e4, e5, e6⟩ := into_eq gv hg
    generalize hd : c.toNat = d at *
    have hu : us v d := by unfold us nofree; unfold isGrey at e3; simp only [Bool.and_eq_true] at e3; exact e3.1
    have hL : L d := h.co d hu (by unfold isGrey at e3; simp only [Bool.and_eq_true, beq_iff_eq] at e3; unfold cel at e3; rw [e3.2]; omega)
    have ga := h.cs d hu hL (cel v d).a (.inl rfl)
    have gb := h.cs d hu hL (cel v d).b (.inr rfl)
    obtain ⟨k1, k2⟩ := h.shade e4 (src_L e4 ga gb (store_src _ _ _ _ _))
    obtain ⟨k3, k4⟩ := k1.black (d := d) (by rw [sh_len]; exact e2) hL
    have q := Jn.of (L := L) ⟨k3, k2.trans k4⟩ (List.length_set.trans (sh_len _ _))
    rw [e6]; exact q
theorem collect_jn (gv : GV v) (h : J v L) (s : S5) : Jn v (collectS v s) L := by
  unfold collectS
  split
  · exact root_jn h gv.mv.laid.1
  split
  · split
    · rename_i h0; exact scan_jn h (pick_lt _ h0)
    · exact Jn.same h
  split
  · exact into_jn gv h
  · exact Jn.same h
theorem step_jn (gv : GV v) (h : J v L) (s : S5) : Jn v (stepS v s) L := by
  unfold stepS
  split
  · exact collect_jn gv h s
  split
  · exact Jn.same h
  rename_i h0
  have hj := pick_lt s.who (show 0 < v.lanes.length by omega)
  split
  · exact Jn.same h
  split
  · exact spawn_jn h hj s
  · exact laneS_jn h gv.nc hj s
end
/-- A cycle begins. -/
def zeroC (x : Cel) : Cel := { x with c := 0 }
def unsc (l : Ln) : Ln := { l with sc := false }
def begV (v : Vw) : Vw := { v with ph := 1, laid := 0, grey := [], cells := v.cells.map zeroC, lanes := v.lanes.map unsc }
theorem beg_at (v : Vw) (i : Nat) : cel (begV v) i = if i < v.cells.length then zeroC (cel v i) else z := by
  show (v.cells.map zeroC).getD i z = _
  split
  · rename_i h; simp [List.getD_eq_getElem?_getD, h, cel]
  · rename_i h; simp [List.getD_eq_getElem?_getD, Nat.le_of_not_lt h]
theorem beg_c (v : Vw) (i : Nat) : (cel (begV v) i).c = 0 := by
  rw [beg_at]; split <;> rfl
theorem beg_k2 (v : Vw) : K2 (begV v) := by
  intro x hx
  exfalso
  rcases hx with e | ⟨d, h1, h2, h3⟩ | ⟨l, h1, h2, h3⟩
  · simp [begV] at e
  · unfold blackC at h2; rw [beg_c] at h2; simp at h2
  · obtain ⟨m, _, rfl⟩ := List.mem_map.1 h1
    cases h2
theorem beg_gv {v : Vw} (hr : VR v) (h : mayV (begV v) = true) (n1 : v.cells.length ≤ 60) (n2 : v.globals.length ≤ 1000) (n3 : v.lanes.length ≤ 8) (n4 : ∀ l ∈ v.lanes, l.roots.length ≤ 1000) : GV (begV v) := by
  refine ⟨mv_of h (.inl rfl), beg_k2 v, fun x hx => ?_, hr.globals, fun l hl x hx => ?_, by simpa [begV] using n1, n2, by simpa [begV] using n3, fun l hl => ?_⟩
  · obtain ⟨y, hy, rfl⟩ := List.mem_map.1 hx
    have := hr.cells y hy
    exact ⟨this.1, this.2.1, by simp [zeroC], by simp [zeroC], this.2.2.2.2.1, this.2.2.2.2.2⟩
  · obtain ⟨y, hy, rfl⟩ := List.mem_map.1 hl
    exact hr.roots y hy x hx
  · obtain ⟨y, hy, rfl⟩ := List.mem_map.1 hl
    exact n4 y hy
/-- Of what is reached at first. -/
theorem beg_j {v : Vw} (h : mayV v = true) (hc : ∀ i, (cel v i).c = 0) : J v (fun i => (order v.cells (rootsL v)).1.getD i false = true) := by
  have hok := mayV_ok h
  have hw : ∀ x ∈ rootsL v, isWord x v.cells.length = true := hok.rootWords
  have hlen : (order v.cells (rootsL v)).1.length = v.cells.length := Gp.order_len (hok.may hw)
  have hat : ∀ i, us v i → ((order v.cells (rootsL v)).1.getD i false = true ↔ Rch v.cells nofree (rootsL v) i) := fun i hu => by
    have hi := nofree_lt hu
    rw [← rea_rch hok hw i hu, ← order_at (hok.may hw) i hi]
    have : i < (order v.cells (rootsL v)).1.length := by omega
    simp [List.getD_eq_getElem?_getD, this]
  have hroot : ∀ x ∈ rootsL v, Gd v (fun i => (order v.cells (rootsL v)).1.getD i false = true) x := fun x hx hr hu => (hat _ hu).2 (.src x hx hr (nofree_lt hu) hu)
  refine ⟨fun x hx => hroot x ?_, fun l hl x hx => hroot x ?_, fun d hu hd x hx hr hxu => ?_, fun d hu hd => absurd (hc d) hd⟩
  · unfold rootsL rt; exact List.mem_append.2 (.inl hx)
  · unfold rootsL rt; rw [List.take_length]; exact List.mem_append.2 (.inr (List.mem_flatMap.2 ⟨l, hl, hx⟩))
  · exact (hat _ hxu).2 (.step d x ((hat d hu).1 hd) hx hr (nofree_lt hxu) hxu)
end Go.Proofs.YtlhhcocdhkbdnaaDoor.Kp
