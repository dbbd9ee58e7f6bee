/-
  PLAIN LAWS (no program): the reference's view answers are the barrier's, though it goes along in another order.
-/
import Derived.Test.YtlhhcocdhkbdnaaDoorQHolds
import Derived.Test.YtlhhcocdhkbdnaaDoorQJReachP
set_option linter.unusedVariables false
set_option linter.unusedSimpArgs false
namespace Go.Proofs.YtlhhcocdhkbdnaaDoor.Bp
open Go.RowKit Go.Proofs.YtlhhcocdhkbdnaaDoor.Wd Go.Proofs.YtlhhcocdhkbdnaaDoor.Hp Go.Proofs.YtlhhcocdhkbdnaaDoor.Gp Go.Proofs.YtlhhcocdhkbdnaaDoor.Sm Go.Proofs.YtlhhcocdhkbdnaaDoor.Gr
def greyIn (n : Nat) (l : List Int) : Bool := l.all (fun c => decide (0 ≤ c) && decide (c < (n : Int))) && nodupB l
def greySame (v : Vw) : Bool := (List.range v.cells.length).all (fun i => decide ((i : Int) ∈ v.grey) == isGrey (v.cells.getD i z))
/-- The reference's Right. -/
def rightV (v : Vw) : Bool := numsOk v && (may v.cells v.globals && (v.lanes.all (fun l => may v.cells l.roots) && (greyIn v.cells.length v.grey && greySame v)))
theorem okCell_eq (n : Nat) (x : Cel) : okCell n x = cellOk n x := by
  unfold okCell cellOk rightW
  simp [Bool.and_assoc]
theorem may_eq (h : List Cel) (ws : List Int) : may h ws = (h.all (cellOk h.length) && rightW h.length ws) := by
  unfold may rightW
  rw [show okCell h.length = cellOk h.length from funext (okCell_eq _)]
def greyIdx (h : List Cel) (k : Nat) : List Nat := (List.range k).filter (fun i => isGrey (h.getD i z))
theorem greyIdx_len (h : List Cel) : ∀ k, k ≤ h.length → (greyIdx h k).length = greyN (h.take k)
  | 0, _ => rfl
  | k + 1, hk => by
    have ih := greyIdx_len h k (by omega)
    unfold greyIdx at ih ⊢
    rw [List.range_succ, List.filter_append, List.length_append, ih, greyN_take h k hk]
    congr 1
    cases hg : isGrey (h.getD k z)
    · rw [List.filter_cons_of_neg (by rw [hg]; simp)]; rfl
    · rw [List.filter_cons_of_pos (by rw [hg])]; rfl
def greyI (h : List Cel) : List Int := (greyIdx h h.length).map Int.ofNat
theorem greyI_len (h : List Cel) : (greyI h).length = greyN h := by
  unfold greyI
  rw [List.length_map, greyIdx_len h _ (Nat.le_refl _), List.take_length]
theorem greyI_nd (h : List Cel) : (greyI h).Nodup := by
  unfold greyI greyIdx
  rw [List.nodup_iff_pairwise_ne, List.pairwise_map]
  have := List.nodup_range (n := h.length)
  rw [List.nodup_iff_pairwise_ne] at this
  refine (this.filter _).imp fun hne e => hne ?_
  exact Int.ofNat.inj e
theorem greyI_mem (h : List Cel) (c : Int) : c ∈ greyI h ↔ greyC h c = true := by
  unfold greyI greyIdx greyC
  simp only [List.mem_map, List.mem_filter, List.mem_range, Bool.and_eq_true, decide_eq_true_eq]
  constructor
  · rintro ⟨i, ⟨h1, h2⟩, rfl⟩
    exact ⟨by simp, by simpa using h1, by simpa using h2⟩
  · rintro ⟨h1, h2, h3⟩
    exact ⟨c.toNat, ⟨by omega, h3⟩, by simp; omega⟩
theorem greySame_iff (v : Vw) : greySame v = true ↔ ∀ i, i < v.cells.length → ((i : Int) ∈ v.grey ↔ isGrey (v.cells.getD i z) = true) := by
  unfold greySame
  simp only [List.all_eq_true, List.mem_range, beq_iff_eq]
  refine forall_congr' fun i => forall_congr' fun _ => ?_
  cases isGrey (v.cells.getD i z) <;> simp
theorem grey_one (v : Vw) (hi : greyIn v.cells.length v.grey = true) (hs : greySame v = true) : greyOk v.cells v.grey = true ∧ greyN v.cells = v.grey.length := by
  unfold greyIn at hi
  simp only [Bool.and_eq_true, List.all_eq_true, decide_eq_true_eq] at hi
  rw [greySame_iff] at hs
  have h1 : ∀ c ∈ v.grey, greyC v.cells c = true := fun c hc => by
    obtain ⟨a, b⟩ := hi.1 c hc
    have := (hs c.toNat (by omega)).1 (by rw [Int.toNat_of_nonneg a]; exact hc)
    unfold greyC
    simp only [Bool.and_eq_true, decide_eq_true_eq]
    exact ⟨a, b, this⟩
  refine ⟨?_, ?_⟩
  · unfold greyOk
    simp only [Bool.and_eq_true, List.all_eq_true]
    exact ⟨h1, hi.2⟩
  · rw [← greyI_len]
    apply Nat.le_antisymm
    · apply (greyI_nd _).length_le_of_subset
      intro c hc
      have hg := (greyI_mem _ _).1 hc
      unfold greyC at hg
      simp only [Bool.and_eq_true, decide_eq_true_eq] at hg
      have := (hs c.toNat (by omega)).2 hg.2.2
      rwa [Int.toNat_of_nonneg hg.1] at this
    · apply ((nodupB_iff _).1 hi.2).length_le_of_subset
      intro c hc
      exact (greyI_mem _ _).2 (h1 c hc)
theorem grey_two (v : Vw) (ho : greyOk v.cells v.grey = true) (hn : greyN v.cells = v.grey.length) : greyIn v.cells.length v.grey = true ∧ greySame v = true := by
  unfold greyOk at ho
  simp only [Bool.and_eq_true, List.all_eq_true] at ho
  refine ⟨?_, ?_⟩
  · unfold greyIn
    simp only [Bool.and_eq_true, List.all_eq_true, decide_eq_true_eq]
    refine ⟨fun c hc => ?_, ho.2⟩
    have := ho.1 c hc
    unfold greyC at this
    simp only [Bool.and_eq_true, decide_eq_true_eq] at this
    exact ⟨this.1, this.2.1⟩
  · rw [greySame_iff]
    intro i hi
    constructor
    · intro hm
      have := ho.1 _ hm
      unfold greyC at this
      simp only [Bool.and_eq_true, decide_eq_true_eq] at this
      simpa using this.2.2
    · intro hg
      refine Decidable.byContradiction fun hne => ?_
      have hnd : ((i : Int) :: v.grey).Nodup := List.nodup_cons.2 ⟨hne, (nodupB_iff _).1 ho.2⟩
      have hsub : ((i : Int) :: v.grey) ⊆ greyI v.cells := by
        intro c hc
        rw [greyI_mem]
        rcases List.mem_cons.1 hc with rfl | hc
        · unfold greyC
          simp only [Bool.and_eq_true, decide_eq_true_eq]
          exact ⟨by omega, by omega, by simpa using hg⟩
        · exact ho.1 c hc
      have := hnd.length_le_of_subset hsub
      rw [greyI_len, hn, List.length_cons] at this
      omega
theorem rightV_eq (v : Vw) : rightV v = mayV v := by
  rw [Bool.eq_iff_iff]
  unfold rightV mayV
  simp only [Bool.and_eq_true, decide_eq_true_eq, may_eq, List.all_eq_true]
  constructor
  · rintro ⟨h1, ⟨h2, h3⟩, h4, h5, h6⟩
    have := grey_one v h5 h6
    exact ⟨h1, h3, h2, this.1, this.2, fun l hl => (h4 l hl).2⟩
  · rintro ⟨h1, h2, h3, h4, h5, h6⟩
    have := grey_two v h4 h5
    exact ⟨h1, ⟨h3, h2⟩, fun l hl => ⟨h3, h6 l hl⟩, this.1, this.2⟩
theorem VOk.may {v : Vw} (hk : VOk v) {ws : List Int} (hw : ∀ x ∈ ws, isWord x v.cells.length = true) : may v.cells ws = true := by
  rw [may_eq]
  simp only [Bool.and_eq_true, List.all_eq_true]
  refine ⟨hk.cells, ?_⟩
  unfold rightW
  simpa [List.all_eq_true] using hw
/-- The words of grey cells, in the cells' order. -/
def gw (x : Cel) : List Int := if isGrey x then [x.a, x.b] else []
def srcR (v : Vw) (cnt : Ln → Bool) : List Int := v.cells.flatMap gw ++ v.globals.drop v.laid.toNat ++ v.lanes.flatMap (lr cnt)
theorem VOk.grey_iff {v : Vw} (hk : VOk v) : ∀ i, i < v.cells.length → ((i : Int) ∈ v.grey ↔ isGrey (v.cells.getD i z) = true) := by
  have ho : greyOk v.cells v.grey = true := by
    unfold greyOk
    simp only [Bool.and_eq_true, List.all_eq_true]
    exact ⟨hk.grey, (nodupB_iff _).2 hk.nd⟩
  exact (greySame_iff v).1 (grey_two v ho hk.n).2
theorem mem_getD {α : Type} (d : α) {l : List α} {x : α} (h : x ∈ l) : ∃ i, i < l.length ∧ l.getD i d = x := by
  obtain ⟨i, hi, rfl⟩ := List.getElem_of_mem h
  exact ⟨i, hi, by simp [List.getD, hi]⟩
theorem getD_memD {α : Type} (d : α) {l : List α} {i : Nat} (h : i < l.length) : l.getD i d ∈ l := by
  rw [show l.getD i d = l[i] by simp [List.getD, h]]; exact List.getElem_mem h
theorem src_mem {v : Vw} (hk : VOk v) (cnt : Ln → Bool) (x : Int) : x ∈ srcR v cnt ↔ x ∈ srcL v cnt := by
  unfold srcR srcL src2 src1
  rw [List.take_length, List.take_length]
  simp only [List.mem_append]
  have key : x ∈ v.cells.flatMap gw ↔ x ∈ v.grey.flatMap (cw v.cells) := by
    rw [List.mem_flatMap, List.mem_flatMap]
    constructor
    · rintro ⟨y, hy, hx⟩
      obtain ⟨i, hi, rfl⟩ := mem_getD z hy
      unfold gw at hx
      split at hx
      · next hg => exact ⟨(i : Int), (hk.grey_iff i hi).2 hg, by unfold cw; simpa using hx⟩
      · cases hx
    · rintro ⟨c, hc, hx⟩
      obtain ⟨h1, h2, h3, h4⟩ := greyC_k (hk.grey c hc)
      refine ⟨v.cells.getD c.toNat z, getD_memD z h2, ?_⟩
      have hg : isGrey (v.cells.getD c.toNat z) = true := by unfold isGrey; rw [h4]; simpa using h3
      unfold gw
      rw [if_pos hg]
      exact hx
  rw [key]
  constructor
  · rintro ((h | h) | h)
    · exact .inl (.inr h)
    · exact .inl (.inl h)
    · exact .inr h
  · rintro ((h | h) | h)
    · exact .inl (.inr h)
    · exact .inl (.inl h)
    · exact .inr h
theorem walk_src {v : Vw} (hk : VOk v) (cnt : Ln → Bool) : walkF v.cells whiteC (srcR v cnt) = walkF v.cells whiteC (srcL v cnt) := walkF_congr (src_mem hk cnt)
/-- What names cells. -/
theorem nm_at (s : List Bool) (x : Int) (c : Nat) (hc : c < s.length) : (nm s x).getD c true = true ↔ s.getD c true = true ∨ (isRef x = true ∧ (cellN x).toNat = c) := by
  unfold nm
  split
  · next hr =>
    by_cases e : (cellN x).toNat = c
    · subst e; simp [List.getD_eq_getElem?_getD, hc, hr]
    · simp only [List.getD_eq_getElem?_getD, List.getElem?_set_ne e, e, and_false, or_false]
  · next hr => simp [hr]
theorem namedL_at (n : Nat) (ws : List Int) (c : Nat) (hc : c < n) : (namedL n ws).getD c true = true ↔ ∃ x ∈ ws, isRef x = true ∧ (cellN x).toNat = c := by
  unfold namedL
  suffices ∀ (l : List Int) (s : List Bool), c < s.length → ((l.foldl nm s).getD c true = true ↔ s.getD c true = true ∨ ∃ x ∈ l, isRef x = true ∧ (cellN x).toNat = c) by
    rw [this ws _ (by simpa using hc)]
    simp [List.getD_eq_getElem?_getD, hc]
  intro l
  induction l with
  | nil => intro s hs; simp
  | cons x l ih =>
    intro s hs
    rw [List.foldl_cons, ih _ (by rw [nm_len]; exact hs), nm_at s x c hs]
    simp only [List.mem_cons, exists_eq_or_imp, or_assoc]
theorem namedL_congr (n : Nat) {ws ws' : List Int} (h : ∀ x, x ∈ ws ↔ x ∈ ws') : namedL n ws = namedL n ws' := by
  apply bools_ext
  · rw [namedL_len, namedL_len]
  · intro c hc
    rw [namedL_len] at hc
    rw [namedL_at n ws c hc, namedL_at n ws' c hc]
    simp only [h]
def laidR (v : Vw) : List Int := v.globals.take v.laid.toNat ++ v.lanes.flatMap sr ++ v.cells.flatMap bw
theorem laid_mem (v : Vw) (x : Int) : x ∈ laidR v ↔ x ∈ knownL v := by
  unfold laidR knownL kn2 kn1
  rw [List.take_length, List.take_length]
  simp only [List.mem_append]
  constructor
  · rintro ((h | h) | h)
    · exact .inl (.inl h)
    · exact .inr h
    · exact .inl (.inr h)
  · rintro ((h | h) | h)
    · exact .inl (.inl h)
    · exact .inr h
    · exact .inl (.inr h)
theorem named_laid (v : Vw) (n : Nat) : namedL n (laidR v) = namedL n (knownL v) := namedL_congr n (laid_mem v)
/-- Over what is not free, the reference's Reach is the walk. -/
theorem rea_rch {v : Vw} (hk : VOk v) {ws : List Int} (hw : ∀ x ∈ ws, isWord x v.cells.length = true) (c : Nat) (hc : nofree (v.cells.getD c z) = true) : Rea v.cells ws c ↔ Rch v.cells nofree ws c := by
  have hm := hk.may hw
  constructor
  · intro hr
    induction hr with
    | src x hx h1 => exact .src x hx h1 (Rea.lt hm (.src x hx h1)) hc
    | step d x hd hx h1 ih =>
      have hlt := Rea.lt hm (.step d x hd hx h1)
      unfold wordsOf at hx
      split at hx
      · cases hx
      · next hn =>
        refine .step d x (ih (by unfold nofree; simpa using hn)) (by simpa using hx) h1 hlt hc
  · intro hr
    clear hc
    induction hr with
    | src x hx h1 _ _ => exact .src x hx h1
    | step d x hd hx h1 _ _ ih =>
      have hn := nofree_k _ hd.cnt
      refine .step d x ih ?_ h1
      unfold wordsOf
      rw [if_neg hn]
      simpa using hx
def badR (v : Vw) (i : Nat) : Bool := whiteC (v.cells.getD i z) && ((order v.cells (rootsL v)).1.getD i true && !(byL v).getD i true || (namedL v.cells.length (laidR v)).getD i true && !(wellL v).getD i true)
theorem badR_eq {v : Vw} (hk : VOk v) (i : Nat) (hi : i < v.cells.length) : badR v i = badH v i := by
  unfold badR badH
  rw [named_laid]
  cases hw : whiteC (v.cells.getD i z)
  · rfl
  · have hn : nofree (v.cells.getD i z) = true := by
      have := whiteC_k _ hw
      unfold nofree; simpa using this
    have hm := hk.may (hk.rootWords)
    have e : (order v.cells (rootsL v)).1.getD i true = (liveL v).getD i true := by
      rw [Bool.eq_iff_iff, order_at hm i hi, rea_rch hk hk.rootWords i hn]
      unfold liveL
      rw [walkF_iff _ _ _ _ hi]
    rw [e]
end Go.Proofs.YtlhhcocdhkbdnaaDoor.Bp
