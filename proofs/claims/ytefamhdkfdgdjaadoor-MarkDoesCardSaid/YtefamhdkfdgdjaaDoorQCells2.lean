/-
  THE WALKS of package cells, on: New, Len, Make, Drop.
-/
import Derived.Test.YtefamhdkfdgdjaaDoorQCells
set_option linter.unusedVariables false
set_option linter.unusedSimpArgs false
set_option maxRecDepth 100000
namespace Go.Proofs.YtefamhdkfdgdjaaDoor.Cl
open Go.RowKit Go.Proofs.YtefamhdkfdgdjaaDoor.Hp Go.Proofs.YtefamhdkfdgdjaaDoor.Ato Go.Proofs.YtefamhdkfdgdjaaDoor.Cp

theorem New_bad (w : World) (n : Int) (h : n < 4 ∨ 4096 < n) :
    Calls Tryd.prog 16 #[.int .i64 n] w fun e w' => e = .returned (.tuple #[.pointer none, .int .i64 30]) ∧ w = w' := by
  rcases h with h | h
  · go_enter Tryd.func16, Tryd.ntmps16
    go_wp2_with fail
    go_ret2
    exact ⟨rfl, rfl⟩
  · go_enter Tryd.func16, Tryd.ntmps16
    go_wp2_with fail
    go_ret2
    exact ⟨rfl, rfl⟩
theorem infoAP : (Tryd.prog.info? 141).map (fun i => (i.zero, i.size, i.bytes)) = some (some (.agg #[.pointer none]), 1, 8) := by kernel_rfl
theorem run_make_ap (w : World) (n : Nat) (h : n ≤ 4096) : (Instr.makeSlice 129 (.int .i64 (n : Int)) (.int .i64 (n : Int))).run Tryd.prog w = .ok (.slice (some ⟨w.heap.size, 0, none⟩) n n) (w.alloc (.cells (madeCells #[.pointer none] n) 141)) := by
  obtain ⟨i, hi, he⟩ := Option.map_eq_some_iff.1 infoAP
  simp only [Prod.mk.injEq] at he
  obtain ⟨e1, e2, e3⟩ := he
  have := run_make (P := Tryd.prog) w 129 141 i _ Tryd.underlying129 hi e1 .i64 .i64 n n (by omega) (by omega) (by rw [e3]; omega) (by omega)
  rw [this, e2]
  simp [Value.cells]
theorem made_get (v : Value) (n j : Nat) (h : j < n) : (madeCells #[v] n)[j]? = some v := by
  simp [madeCells, h, Nat.mod_one]

theorem New_any (w : World) (n : Nat) (h4 : 4 ≤ n) (h4096 : n ≤ 4096) :
    Calls Tryd.prog 16 #[.int .i64 n] w fun e w' => ∃ p s F, e = .returned (.tuple #[.pointer (some ⟨p, 0, none⟩), .int .i64 0]) ∧ Is w' p s F (List.replicate n free) ∧ Ch [] w w' ∧ (∀ x ∈ F, w.heap.size ≤ x) := by
  have hmk : ∀ w : World, _ := fun w => run_make_ap w n h4096
  go_enter Tryd.func16, Tryd.ntmps16
  go_wp2_with fail
  go_ret2
  refine ⟨w.heap.size + 1, w.heap.size, [w.heap.size + 1, w.heap.size], rfl, ⟨?_, ?_, by omega, by simp, by simp, ?_, by simp; omega, ?_⟩, (Ch.refl _ _).alloc _ |>.alloc _, ?_⟩
  · have := heap_new (w.alloc (.cells (madeCells #[.pointer none] n) 141)) (.cells #[.slice (some ⟨w.heap.size, 0, none⟩) n n] 131)
    simpa using this
  · refine ⟨_, heap_old (heap_new w _), by simp [size_madeCells], fun i hi => ⟨none, made_get _ _ _ (by simpa using hi), .inl ⟨?_, rfl⟩⟩⟩
    simp at hi; simp [List.getD, hi]
  · intro x hx; simp at hx; simp; omega
  · intro x hx; rw [List.mem_replicate] at hx; exact .inl hx.2
  · intro x hx; simp at hx; omega

theorem Is.put_at' {w w1 : World} {p s : Nat} {F : List Nat} {l : List Cel} {n : Nat} {x : Cel} {S : List Nat} (h : Is w p s F l) (hn : n < l.length) (hc : Ch S w w1) (hS : ∀ b ∈ F, b ∉ S) (hx : x ≠ free) (hok : OkC x) (b : Nat) (hb : w1.heap[b]? = some (.cells (cel x) 86 (0, 0))) (hbn : w.heap.size ≤ b) :
    ∃ F', Is (w1.setCell ⟨s, n, none⟩ (.pointer (some ⟨b, 0, none⟩))) p s F' (l.set n x) ∧ Ch (s :: S) w (w1.setCell ⟨s, n, none⟩ (.pointer (some ⟨b, 0, none⟩))) ∧ ∀ y ∈ F', y ∈ F ∨ w.heap.size ≤ y := by
  have hs := h.lt _ h.sf
  have hc2 : Ch (s :: S) w (w1.setCell ⟨s, n, none⟩ (.pointer (some ⟨b, 0, none⟩))) := (hc.mono (fun x hx => by simp [hx])).setCell _ _ (.inl (by simp))
  refine ⟨b :: F, h.put hn hc2 (fun y hy hys => by simp [hys]; exact hS y hy) (fun arr t ha => heap_set (hc.heap ha (hS s h.sf)) _) (.inr ⟨hx, b, ⟨by simp, by omega⟩, rfl, (heap_set_ne (by omega)).trans hb⟩) hok (fun y hy => by simp [hy]) ?_, hc2, ?_⟩
  · intro y hy
    rcases List.mem_cons.1 hy with rfl | hy
    · have := lt_of hb; simpa [World.setCell] using this
    · exact Nat.lt_of_lt_of_le (h.lt y hy) hc2.size
  · intro y hy
    rcases List.mem_cons.1 hy with rfl | hy
    · exact .inr hbn
    · exact .inl hy
theorem Is.put_at {w w1 : World} {p s : Nat} {F : List Nat} {l : List Cel} {n : Nat} {x : Cel} (h : Is w p s F l) (hn : n < l.length) (hc : Ch [] w w1) (hx : x ≠ free) (hok : OkC x) (b : Nat) (hb : w1.heap[b]? = some (.cells (cel x) 86 (0, 0))) (hbn : w.heap.size ≤ b) :
    To w (w1.setCell ⟨s, n, none⟩ (.pointer (some ⟨b, 0, none⟩))) p s F (l.set n x) := h.put_at' hn hc (by simp) hx hok b hb hbn
theorem Is.put_nil {w w1 : World} {p s : Nat} {F : List Nat} {l : List Cel} {n : Nat} (h : Is w p s F l) (hn : n < l.length) (hc : Ch [] w w1) :
    To w (w1.setCell ⟨s, n, none⟩ (.pointer none)) p s F (l.set n free) := by
  have hc2 : Ch [s] w (w1.setCell ⟨s, n, none⟩ (.pointer none)) := (hc.mono (by simp)).setCell _ _ (.inl (by simp))
  exact ⟨F, h.put hn hc2 (fun y hy hys => by simpa using hys) (fun arr t ha => heap_set (hc.heap ha (by simp)) _) (.inl ⟨rfl, rfl⟩) (.inl rfl) (fun y hy => hy) (fun y hy => Nat.lt_of_lt_of_le (h.lt y hy) hc2.size), hc2, fun y hy => .inl hy⟩

theorem Make_any (w : World) (p s : Nat) (F : List Nat) (l : List Cel) (i k c a b : Int) (h : Is w p s F l) (hk : k < 256) (hb : 0 ≤ c ∧ 0 ≤ a ∧ a < 18446744073709551616 ∧ 0 ≤ b ∧ b < 18446744073709551616) :
    Calls Tryd.prog 19 #[.pointer (some ⟨p, 0, none⟩), .int .i64 i, .int .u8 k, .int .u8 c, .int .u64 a, .int .u64 b] w fun e w' => e = .returned (.int .i64 (makeE l i k c)) ∧ To w w' p s F (make l i k c a b) := by
  have H := is_any w p s F l i h
  cases hi : isC l i
  · have e : makeE l i k c = 1 ∧ make l i k c a b = l := by simp [make, makeE, hi]
    rw [e.1, e.2]; rw [hi] at H
    clear e
    go_enter Tryd.func19, Tryd.ntmps19
    go_wp2_with (go_at_call 68; refine H.mono ?_; rintro e w' ⟨rfl, rfl⟩)
    go_ret
    exact ⟨rfl, h.to (Ch.refl _ _)⟩
  · rw [hi] at H
    obtain ⟨n, rfl, hn⟩ := isC_nat hi
    obtain ⟨po, o1, o2, o3, o4, o5⟩ := h.slot n hn
    by_cases hf : k < 1 ∨ 3 < k ∨ 2 < c
    · have e : makeE l n k c = 30 ∧ make l n k c a b = l := by simp only [make, makeE, hi, if_true, hf]; simp
      rw [e.1, e.2]
      go_enter Tryd.func19, Tryd.ntmps19
      go_wp2_with (go_at_call 68; refine H.mono ?_; rintro e w' ⟨rfl, rfl⟩)
      all_goals (go_ret; exact ⟨rfl, h.to (Ch.refl _ _)⟩)
    · have h1 : ¬ k < 1 := by omega
      have h2 : ¬ 3 < k := by omega
      have h3 : ¬ 2 < c := by omega
      have u := o4.used o5
      rcases o4 with ⟨o4, rfl⟩ | ⟨hne, bb, hbb, rfl, hh⟩
      · have e : makeE l n k c = 0 ∧ make l n k c a b = l.set n ⟨k, c, a, b⟩ := by
          have : used l n = false := by simp only [used, hi, Bool.true_and, get_nat, u]; rfl
          simp only [make, makeE, hi, if_true, this, hf, if_false]; simp
        rw [e.1, e.2]
        clear e o4 o5 u
        have hx : OkC ⟨k, c, a, b⟩ := .inr ⟨by simp; omega, by simp; omega, by simp; omega, by simp; omega, by simp; omega, by simp; omega, by simp; omega, by simp; omega⟩
        go_enter Tryd.func19, Tryd.ntmps19
        go_wp2_with (go_at_call 68; refine H.mono ?_; rintro e w' ⟨rfl, rfl⟩)
        refine (Cas_hit _ s n none (some ⟨w.heap.size, 0, none⟩) (((Ch.refl [] w).alloc _).cell o2 (by simp)) ((((Ch.refl [] w).alloc _).frozen (World.block_lt_of_cell? w _ o2) (by simp)).trans o3) (.inl rfl) (.inr ⟨_, _, rfl, heap_new w _, rfl⟩)).mono ?_
        rintro e w' ⟨rfl, rfl⟩
        go_wp2_with fail
        go_ret
        exact ⟨rfl, h.put_at hn ((Ch.refl [] w).alloc _) (by intro hz; have := congrArg Cel.k hz; simp [free] at this; omega) hx _ (heap_new w _) (Nat.le_refl _)⟩
      · have e : makeE l n k c = 31 ∧ make l n k c a b = l := by
          have : used l n = true := by simp only [used, hi, Bool.true_and, get_nat, u]; rfl
          simp only [make, makeE, hi, if_true, this, hf, if_false]; simp
        rw [e.1, e.2]
        clear e o5 u
        go_enter Tryd.func19, Tryd.ntmps19
        go_wp2_with (go_at_call 68; refine H.mono ?_; rintro e w' ⟨rfl, rfl⟩)
        refine (Cas_miss _ s n _ (some ⟨w.heap.size, 0, none⟩) (((Ch.refl [] w).alloc _).cell o2 (by simp)) ((((Ch.refl [] w).alloc _).frozen (World.block_lt_of_cell? w _ o2) (by simp)).trans o3) (.inr ⟨_, _, rfl, heap_new w _, rfl⟩)).mono ?_
        rintro e w' ⟨rfl, rfl⟩
        go_wp2_with fail
        go_ret
        exact ⟨rfl, h.to ((Ch.refl [] w).alloc _)⟩

theorem Drop_any (w : World) (p s : Nat) (F : List Nat) (l : List Cel) (i : Int) (h : Is w p s F l) :
    Calls Tryd.prog 39 #[.pointer (some ⟨p, 0, none⟩), .int .i64 i] w fun e w' => e = .returned (.int .i64 (dropE l i)) ∧ To w w' p s F (drop l i) := by
  have H := is_any w p s F l i h
  cases hi : isC l i
  · have e : dropE l i = 1 ∧ drop l i = l := by simp [drop, dropE, hi]
    rw [e.1, e.2]; rw [hi] at H
    clear e
    go_enter Tryd.func39, Tryd.ntmps39
    go_wp2_with (go_at_call 68; refine H.mono ?_; rintro e w' ⟨rfl, rfl⟩)
    go_ret
    exact ⟨rfl, h.to (Ch.refl _ _)⟩
  · rw [hi] at H
    obtain ⟨n, rfl, hn⟩ := isC_nat hi
    obtain ⟨po, o1, o2, o3, o4, o5⟩ := h.slot n hn
    have u := o4.used o5
    have HS := Swap_any w s n po none o2 o3 o4.slot (.inl rfl) (o4.imp (fun h => h.2) fun ⟨_, b, hb, h3, h4⟩ => ⟨b, _, h3, (heap_set_ne hb.2).trans h4, rfl⟩)
    have hT := h.put_nil hn (Ch.refl [] w)
    have e : dropE l n = (if po.isSome then 0 else 31) ∧ drop l n = l.set n free := by
      have : used l n = po.isSome := by simp only [used, hi, Bool.true_and, get_nat, u]
      simp only [drop, dropE, hi, if_true, this]
      rcases o4 with ⟨o4, rfl⟩ | ⟨hne, bb, hbb, rfl, hh⟩
      · simp only [Option.isSome_none, Bool.false_eq_true, if_false, true_and]
        have : l.getD n free = l[n] := by simp [List.getD, hn]
        rw [this] at o4
        rw [← o4, List.set_getElem_self]
        simp
      · simp
    rw [e.1, e.2]
    clear e u o4 o5 h
    cases po with
    | none =>
      go_enter Tryd.func39, Tryd.ntmps39
      go_wp2_with (first | (go_at_call 68; refine H.mono ?_; rintro e w' ⟨rfl, rfl⟩) | (refine HS.mono ?_; rintro e w' ⟨rfl, rfl⟩))
      go_ret
      exact ⟨rfl, hT⟩
    | some q =>
      go_enter Tryd.func39, Tryd.ntmps39
      go_wp2_with (first | (go_at_call 68; refine H.mono ?_; rintro e w' ⟨rfl, rfl⟩) | (refine HS.mono ?_; rintro e w' ⟨rfl, rfl⟩))
      go_ret
      exact ⟨rfl, hT⟩
end Go.Proofs.YtefamhdkfdgdjaaDoor.Cl
