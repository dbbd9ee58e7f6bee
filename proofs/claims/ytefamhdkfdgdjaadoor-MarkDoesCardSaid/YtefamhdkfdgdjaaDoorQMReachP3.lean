/-
  PLAIN LAWS (no program): at the end the black cells are just those that are reached, and so many.
-/
import Derived.Test.YtefamhdkfdgdjaaDoorQMReachP2
set_option linter.unusedVariables false
set_option linter.unusedSimpArgs false
namespace Go.Proofs.YtefamhdkfdgdjaaDoor.Mr
open Go.RowKit Go.Proofs.YtefamhdkfdgdjaaDoor.Wd Go.Proofs.YtefamhdkfdgdjaaDoor.Cp Go.Proofs.YtefamhdkfdgdjaaDoor.Cl Go.Proofs.YtefamhdkfdgdjaaDoor.Mk Go.Proofs.YtefamhdkfdgdjaaDoor.L15
/-- How many of the first k cells are told. -/
def cnt (R : List Int) : Nat → Nat
  | 0 => 0
  | k + 1 => if (k : Int) ∈ R then cnt R k + 1 else cnt R k
def firsts (R : List Int) (k : Nat) : List Nat := (List.range k).filter (fun (i : Nat) => decide ((i : Int) ∈ R))
theorem cnt_eq (R : List Int) : ∀ k, cnt R k = (firsts R k).length
  | 0 => rfl
  | k + 1 => by
    unfold firsts
    rw [cnt, cnt_eq R k, List.range_succ, List.filter_append]
    unfold firsts
    by_cases h : (k : Int) ∈ R <;> simp [h]
theorem cnt_all {R : List Int} {n : Nat} (nd : R.Nodup) (hR : ∀ c ∈ R, ∃ m : Nat, c = m ∧ m < n) : cnt R n = R.length := by
  rw [cnt_eq]
  have h1 : R.length ≤ ((firsts R n).map (fun (i : Nat) => (i : Int))).length := nd.length_le_of_subset (fun c hc => by
    obtain ⟨m, rfl, hm⟩ := hR c hc
    exact List.mem_map.2 ⟨m, List.mem_filter.2 ⟨List.mem_range.2 hm, by simpa using hc⟩, rfl⟩)
  have nd2 : ((firsts R n).map (fun (i : Nat) => (i : Int))).Nodup := by
    have : (firsts R n).Nodup := List.nodup_range.filter _
    rw [List.nodup_iff_pairwise_ne, List.pairwise_map]
    rw [List.nodup_iff_pairwise_ne] at this
    exact this.imp (fun h e => h (by omega))
  have h2 : ((firsts R n).map (fun (i : Nat) => (i : Int))).length ≤ R.length := nd2.length_le_of_subset (fun c hc => by
    obtain ⟨m, hm, rfl⟩ := List.mem_map.1 hc
    have := (List.mem_filter.1 hm).2
    simpa using this)
  rw [List.length_map] at h1 h2
  omega
/-- What the law asks of each cell. -/
theorem end_cell {p : List Cp.Cel} (hp : PlainOk p) {all : List Int} {l : List Cp.Cel} {R : List Int} (h : MI p all l R R.length) {c : Nat} (hc : c < 16) :
    l.getD c free = { p.getD c free with c := if (c : Int) ∈ R then 2 else 0 } ∧ ((c : Int) ∈ R ↔ ((Gp.order (p.map conv) (rootsOf p all)).1.getD c true = true ∧ (p.getD c free).k ≠ 0)) := by
  have hm := may_plain hp all (fun _ _ => trivial)
  constructor
  · have := h.ci.keep c (by rw [hp.len]; exact hc)
    rw [this, List.take_length]
    unfold colr
    split <;> rfl
  · rw [h.done, black_iff hp hm hc]
theorem end_len {p : List Cp.Cel} (hp : PlainOk p) {all : List Int} {l : List Cp.Cel} {R : List Int} (h : MI p all l R R.length) : cnt R 16 = R.length :=
  cnt_all h.ci.nd (fun c hc => by
    obtain ⟨n, e, hn, _⟩ := Mr.used_nat (h.ci.use c hc)
    exact ⟨n, e, by rw [hp.len] at hn; exact hn⟩)
end Go.Proofs.YtefamhdkfdgdjaaDoor.Mr
