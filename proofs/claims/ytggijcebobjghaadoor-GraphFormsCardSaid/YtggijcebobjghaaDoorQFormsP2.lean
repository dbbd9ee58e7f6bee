/-
  PLAIN LAWS (no program): what the law GraphForms builds: a numbering out of exchanges, the heap numbered by it.
-/
import Derived.Test.YtggijcebobjghaaDoorQFormsP
set_option linter.unusedVariables false
set_option linter.unusedSimpArgs false
namespace Go.Proofs.YtggijcebobjghaaDoor.Fo
open Go.RowKit Go.Proofs.YtggijcebobjghaaDoor.Wd Go.Proofs.YtggijcebobjghaaDoor.Hp Go.Proofs.YtggijcebobjghaaDoor.Gr Go.Proofs.YtggijcebobjghaaDoor.Gp Go.Proofs.YtggijcebobjghaaDoor.Bf Go.Proofs.YtggijcebobjghaaDoor.Pa
def swapL (l : List Nat) (a b : Nat) : List Nat := (l.set a (l.getD b 0)).set b (l.getD a 0)
theorem swap_perm (l : List Nat) (a b : Nat) (ha : a < l.length) (hb : b < l.length) : (swapL l a b).Perm l := by
  have := List.set_set_perm ha hb
  unfold swapL
  rwa [show l.getD b 0 = l[b] by simp [List.getD_eq_getElem?_getD, hb], show l.getD a 0 = l[a] by simp [List.getD_eq_getElem?_getD, ha]]
def pickI (c : Int) : Int := if c < 0 then -(c + 1) else c
def pickN (c : Int) (n : Nat) : Nat := (pickI c % (n : Int)).toNat
theorem pick_nn (c : Int) : 0 ≤ pickI c := by unfold pickI; split <;> omega
theorem pick_cast (c : Int) (n : Nat) (hn : 0 < n) : ((pickN c n : Nat) : Int) = pickI c % n ∧ pickN c n < n := by
  have h1 := Int.emod_nonneg (pickI c) (show (n : Int) ≠ 0 by omega)
  have h2 := Int.emod_lt_of_pos (pickI c) (show (0 : Int) < n by omega)
  unfold pickN
  omega
def toK (o : List Int) (N : Nat) : Nat → List Nat
  | 0 => List.range N
  | k + 1 => swapL (toK o N k) (pickN (o.getD k 0) N) (pickN (o.getD (k + 1) 0) N)
theorem toK_perm (o : List Int) (N : Nat) (hN : 0 < N) : ∀ k, (toK o N k).Perm (List.range N)
  | 0 => List.Perm.refl _
  | k + 1 => by
    have ih := toK_perm o N hN k
    have hl : (toK o N k).length = N := by rw [ih.length_eq]; simp
    exact (swap_perm _ _ _ (by rw [hl]; exact (pick_cast _ _ hN).2) (by rw [hl]; exact (pick_cast _ _ hN).2)).trans ih
/-- A numbering of so many. -/
structure Num (to : List Nat) (N : Nat) : Prop where
  len : to.length = N
  lt : ∀ i, i < N → to.getD i 0 < N
  inj : ∀ i j, i < N → j < N → to.getD i 0 = to.getD j 0 → i = j
  sur : ∀ d, d < N → ∃ i, i < N ∧ to.getD i 0 = d
theorem Num.of {to : List Nat} {N : Nat} (h : to.Perm (List.range N)) : Num to N := by
  have hl : to.length = N := by rw [h.length_eq]; simp
  have nd : to.Nodup := h.nodup_iff.2 List.nodup_range
  refine ⟨hl, fun i hi => ?_, fun i j hi hj e => ?_, fun d hd => ?_⟩
  · exact List.mem_range.1 (h.mem_iff.1 (Bf.getD_in to i (by omega)))
  · exact nodup_inj nd (by omega) (by omega) e
  · obtain ⟨i, hi, e⟩ := row_at (h.mem_iff.2 (List.mem_range.2 hd))
    exact ⟨i, by omega, e⟩
def mvT (to : List Nat) (v : Int) : Int := if (isRef v && decide (cellN v < to.length)) = true then refW (to.getD (cellN v).toNat 0 : Nat) else v
theorem mvT_mv {to : List Nat} {v : Int} (h : isRef v = true → (cellN v).toNat < to.length) : mvT to v = mv (fun c => to.getD c 0) v := by
  unfold mvT mv
  by_cases hr : isRef v = true
  · have := h hr
    have hc := cellN_range v
    rw [if_pos hr, if_pos (by rw [hr]; simp; omega)]
  · rw [if_neg hr, if_neg (by simp [hr])]
theorem mvT_u {to : List Nat} {v : Int} (h : u64 v) : u64 (mvT to v) := by
  unfold mvT; split
  · exact mkW_range _ _
  · exact h
def othC (h : List Cel) (to : List Nat) (i : Nat) : Cel := ⟨(h.getD i z).k, ((i % 3 : Nat) : Int), mvT to (h.getD i z).a, mvT to (h.getD i z).b⟩
def othK (h : List Cel) (to : List Nat) (N : Nat) : Nat → List Cel
  | 0 => List.replicate N z
  | k + 1 => (othK h to N k).set (to.getD k 0) (othC h to k)
def lastC (n : Nat) : Cel := ⟨1, 0, refW 0, refW n⟩
def oth (h : List Cel) (to : List Nat) : List Cel := (othK h to (h.length + 1) h.length).set (to.getD h.length 0) (lastC h.length)
theorem othK_len (h : List Cel) (to : List Nat) (N : Nat) : ∀ k, (othK h to N k).length = N
  | 0 => by simp [othK]
  | k + 1 => by simp [othK, othK_len h to N k]
theorem oth_len (h : List Cel) (to : List Nat) : (oth h to).length = h.length + 1 := by simp [oth, othK_len]
theorem set_atz (l : List Cel) (a d : Nat) (x : Cel) (ha : a < l.length) : (l.set a x).getD d z = if d = a then x else l.getD d z := by
  by_cases e : d = a
  · subst e; rw [if_pos rfl]; simp [List.getD_eq_getElem?_getD, ha]
  · rw [if_neg e, List.getD_eq_getElem?_getD, List.getElem?_set_ne (Ne.symm e), ← List.getD_eq_getElem?_getD]
theorem othK_at {h : List Cel} {to : List Nat} {N : Nat} (hT : Num to N) : ∀ k, k ≤ N → ∀ i, i < k → (othK h to N k).getD (to.getD i 0) z = othC h to i
  | 0, _, i, hi => absurd hi (by omega)
  | k + 1, hk, i, hi => by
    rw [othK, set_atz _ _ _ _ (by rw [othK_len]; exact hT.lt k (by omega))]
    split
    · next e => rw [hT.inj i k (by omega) (by omega) e]
    · next e =>
      have : i ≠ k := fun h => e (by rw [h])
      exact othK_at hT k (by omega) i (by omega)
theorem oth_at {h : List Cel} {to : List Nat} (hT : Num to (h.length + 1)) (i : Nat) (hi : i < h.length) : (oth h to).getD (to.getD i 0) z = othC h to i := by
  unfold oth
  rw [set_atz _ _ _ _ (by rw [othK_len]; exact hT.lt _ (by omega)), if_neg (fun e => by have := hT.inj i h.length (by omega) (by omega) e; omega)]
  exact othK_at hT _ (by omega) i hi
theorem oth_last {h : List Cel} {to : List Nat} (hT : Num to (h.length + 1)) : (oth h to).getD (to.getD h.length 0) z = lastC h.length := by
  unfold oth
  rw [set_atz _ _ _ _ (by rw [othK_len]; exact hT.lt _ (by omega)), if_pos rfl]
theorem oth_ren {h : List Cel} {ws : List Int} {to : List Nat} (hm : may h ws = true) (hn : h.length ≤ 1000000) (hT : Num to (h.length + 1)) : Ren h ws (oth h to) (ws.map (mvT to)) (fun c => to.getD c 0) := by
  have hle := (order_inv hm).le
  obtain ⟨m1, m2⟩ := may_iff.1 hm
  have hlt : ∀ c ∈ (order h ws).2, c < h.length := fun c hc => (((order_inv hm).mem c).1 hc).1
  have hrf : ∀ v : Int, isWord v h.length = true → isRef v = true → (cellN v).toNat < h.length := fun v hv hr => isWord_ok hv hr
  have hME : ∀ v : Int, isWord v h.length = true → mvT to v = mv (fun c => to.getD c 0) v := fun v hv => mvT_mv (fun hr => by have := hrf v hv hr; rw [hT.len]; omega)
  have hW : ∀ v : Int, isWord v h.length = true → isWord (mvT to v) (h.length + 1) = true := fun v hv => by
    rw [hME v hv]
    exact isWord_mv hv (fun hr => hT.lt _ (by have := hrf v hv hr; omega)) (by omega)
  refine ⟨hm, may_iff.2 ⟨fun d hd => ?_, fun v hv => ?_⟩, fun a b ha hb e => ?_, fun c hc => ?_, fun c hc hk => ?_, ?_, fun c hc => ?_⟩
  · rw [oth_len] at hd ⊢
    obtain ⟨i, hi, rfl⟩ := hT.sur d hd
    by_cases e : i < h.length
    · rw [oth_at hT i e]
      obtain ⟨k1, k2, k3⟩ := okCell_iff.1 (m1 i e)
      exact okCell_iff.2 ⟨k1, show (((i % 3 : Nat) : Int)) ≤ 2 by omega, fun hk => ⟨hW _ (k3 hk).1, hW _ (k3 hk).2⟩⟩
    · obtain rfl : i = h.length := by omega
      rw [oth_last hT]
      have r0 := refW_ok 0 (by omega)
      have rn := refW_ok h.length (by omega)
      refine okCell_iff.2 ⟨(by show (1 : Int) ≤ 3; omega), (by show (0 : Int) ≤ 2; omega), fun _ => ⟨?_, ?_⟩⟩
      · show isWord (refW ((0 : Nat) : Int)) _ = true
        unfold isWord; rw [r0.1, r0.2.1, r0.2.2]; simp; try omega
      · show isWord (refW _) _ = true
        unfold isWord; rw [rn.1, rn.2.1, rn.2.2]; simp; omega
  · rw [oth_len]
    rw [List.mem_map] at hv
    obtain ⟨u, hu, rfl⟩ := hv
    exact hW u (m2 u hu)
  · have h1 := hlt a ha
    have h2 := hlt b hb
    exact hT.inj a b (by omega) (by omega) e
  · show ((oth h to).getD (to.getD c 0) z).k = _
    rw [oth_at hT c (hlt c hc)]; rfl
  · show ((oth h to).getD (to.getD c 0) z).a = _ ∧ ((oth h to).getD (to.getD c 0) z).b = _
    rw [oth_at hT c (hlt c hc)]
    obtain ⟨k1, k2, k3⟩ := okCell_iff.1 (m1 c (hlt c hc))
    exact ⟨hME _ (k3 hk).1, hME _ (k3 hk).2⟩
  · exact List.map_congr_left (fun v hv => hME v (m2 v hv))
  · have h1 := hlt c hc
    have := hT.lt c (by omega)
    show to.getD c 0 ≤ _
    omega
/-- THE HEAP NUMBERED OTHERWISE HAS THE SAME FORM. -/
theorem form_oth {h : List Cel} {ws : List Int} {to : List Nat} (hm : may h ws = true) (hn : h.length ≤ 1000000) (hT : Num to (h.length + 1)) : may (oth h to) (ws.map (mvT to)) = true ∧ formH (oth h to) (ws.map (mvT to)) = formH h ws ∧ formW (oth h to) (ws.map (mvT to)) = formW h ws :=
  ⟨(oth_ren hm hn hT).hm', (oth_ren hm hn hT).form⟩
theorem oth_in {h : List Cel} {to : List Nat} (hh : ∀ x ∈ h, InR x) (hT : Num to (h.length + 1)) : ∀ x ∈ oth h to, InR x := by
  intro x hx
  obtain ⟨d, hd, rfl⟩ := List.getElem_of_mem hx
  rw [show (oth h to)[d] = (oth h to).getD d z by simp [List.getD, hd]]
  rw [oth_len] at hd
  obtain ⟨i, hi, rfl⟩ := hT.sur d hd
  by_cases e : i < h.length
  · rw [oth_at hT i e]
    obtain ⟨i1, i2, i3, i4, i5, i6⟩ := InR.at hh i e
    refine ⟨i1, i2, show (0 : Int) ≤ ((i % 3 : Nat) : Int) by omega, show ((i % 3 : Nat) : Int) < 256 by omega, mvT_u i5, mvT_u i6⟩
  · obtain rfl : i = h.length := by omega
    rw [oth_last hT]
    unfold lastC
    exact ⟨(by show (0 : Int) ≤ 1; omega), (by show (1 : Int) < 256; omega), (by show (0 : Int) ≤ 0; omega), (by show (0 : Int) < 256; omega), (by have := mkW_range 8 0; exact this), (by have := mkW_range 8 h.length; exact this)⟩
end Go.Proofs.YtggijcebobjghaaDoor.Fo
