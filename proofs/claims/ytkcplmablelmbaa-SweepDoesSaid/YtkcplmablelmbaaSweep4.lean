/-
  A sweep's state with further blocks of the law's own, which its calls leave as they are.
-/
import Derived.Test.YtkcplmablelmbaaSweep3
import Derived.Test.YtkcplmablelmbaaSweepPure2
set_option linter.unusedVariables false
set_option linter.unusedSimpArgs false
set_option maxRecDepth 100000
namespace Go.Proofs.Ytkcplmablelmbaa.Sw
open Go.RowKit Go.Proofs.Ytkcplmablelmbaa.Hp Go.Proofs.Ytkcplmablelmbaa.Ato Go.Proofs.Ytkcplmablelmbaa.Cp Go.Proofs.Ytkcplmablelmbaa.Cl

/-- .. and the blocks of O hold what they are said to hold. -/
structure J (w0 w : World) (v p s : Nat) (F : List Nat) (l : List Cel) (a f : Nat) (O : List (Nat × Obj)) : Prop where
  k : K w0 w v p s F l a f
  ob : ∀ x ∈ O, w.heap[x.1]? = some x.2 ∧ x.1 ∉ F ∧ x.1 ≠ v

theorem J.on {w0 w w' : World} {v p s : Nat} {F F' : List Nat} {l l' : List Cel} {a f a' f' : Nat} {O : List (Nat × Obj)} {S : List Nat} (h : J w0 w v p s F l a f O) (hc : Ch S w w') (hS : ∀ x ∈ S, x = s ∨ x = v)
    (k' : K w0 w' v p s F' l' a' f') (hF : ∀ b ∈ F', b ∈ F ∨ w.heap.size ≤ b) : J w0 w' v p s F' l' a' f' O :=
  ⟨k', fun x hx => by
    obtain ⟨h1, h2, h3⟩ := h.ob x hx
    refine ⟨hc.heap h1 fun hm => ?_, fun hm => ?_, h3⟩
    · rcases hS _ hm with e | e
      · exact h2 (e ▸ h.k.is.sf)
      · exact h3 e
    · rcases hF _ hm with e | e
      · exact h2 e
      · have := lt_of h1; omega⟩
theorem J.chg {w0 w w' : World} {v p s : Nat} {F : List Nat} {l : List Cel} {a f : Nat} {O : List (Nat × Obj)} (h : J w0 w v p s F l a f O) (hc : Ch [] w w') : J w0 w' v p s F l a f O :=
  h.on hc (by simp) (h.k.chg hc) (fun b hb => .inl hb)
theorem J.to {w0 w w' : World} {v p s : Nat} {F : List Nat} {l l' : List Cel} {a f : Nat} {O : List (Nat × Obj)} (h : J w0 w v p s F l a f O) (ht : To w w' p s F l') : ∃ F', J w0 w' v p s F' l' a f O := by
  obtain ⟨F', h1, h2, h3⟩ := ht
  have hk : K w0 w' v p s F' l' a f := by
    refine ⟨h1, h2.heap h.k.at' (by simp; exact fun e => h.k.nv (e ▸ h.k.is.sf)), ?_, h.k.ch.trans h2 (by simp; exact h.k.fr _ h.k.is.sf), ?_, h.k.vf⟩
    · intro hm
      rcases h3 v hm with h' | h'
      · exact h.k.nv h'
      · have := lt_of h.k.at'; omega
    · intro b hb
      rcases h3 b hb with h' | h'
      · exact h.k.fr b h'
      · exact Nat.le_trans h.k.ch.size h'
  exact ⟨F', h.on h2 (by simp) hk h3⟩
theorem J.drop1 {w0 w : World} {v p s : Nat} {F : List Nat} {l : List Cel} {a f : Nat} {O : List (Nat × Obj)} {x : Nat × Obj} (h : J w0 w v p s F l a f (x :: O)) : J w0 w v p s F l a f O := ⟨h.k, fun y hy => h.ob y (by simp [hy])⟩
theorem J.step {w0 w : World} {v p s : Nat} {F : List Nat} {l : List Cel} {a f : Nat} {O : List (Nat × Obj)} (h : J w0 w v p s F l a f O) (ha : a ≤ 5000) (hf : f ≤ 5000)
    (c : Int) (b : Bool) (e' : Int) (l' : List Cel) (a' f' : Nat) (h1 : cellOf l a = c ∧ backOf l a = b ∧ errOf l a = e' ∧ next l a = l' ∧ atOf l a = a' ∧ freedOf l a f = f') :
    Calls Try.prog 12 #[.pointer (some ⟨v, 0, none⟩)] w fun e w' => e = .returned (.tuple #[.int .i64 c, .bool b, .int .i64 e']) ∧ ∃ F', J w0 w' v p s F' l' a' f' O := by
  obtain ⟨rfl, rfl, rfl, rfl, rfl, rfl⟩ := h1
  refine (Step_any w v p s F l a f h.k.is h.k.at' h.k.nv ha hf).mono ?_
  rintro e w' ⟨h1, F', h2, h3, h4, h5⟩
  have hk : K w0 w' v p s F' (next l a) (atOf l a) (freedOf l a f) := by
    refine ⟨h2, h3, fun hm => ?_, h.k.ch.trans h4 (by simp; exact ⟨h.k.fr _ h.k.is.sf, h.k.vf⟩), ?_, h.k.vf⟩
    · rcases h5 v hm with h' | h'
      · exact h.k.nv h'
      · have := lt_of h.k.at'; omega
    · intro b hb
      rcases h5 b hb with h' | h'
      · exact h.k.fr b h'
      · exact Nat.le_trans h.k.ch.size h'
  exact ⟨h1, F', h.on h4 (by simp) hk h5⟩
theorem J.begin {w0 w : World} {v p s : Nat} {F : List Nat} {l : List Cel} {a f : Nat} {O : List (Nat × Obj)} (h : J w0 w v p s F l a f O) :
    Calls Try.prog 10 #[.pointer (some ⟨v, 0, none⟩)] w fun e w' => e = .returned (.tuple #[]) ∧ J w0 w' v p s F l 0 0 O := by
  refine (Begin_any w v p a f h.k.at').mono ?_
  rintro e w' ⟨h1, h2, h3⟩
  exact ⟨h1, h.on h3 (by simp) ⟨h.k.is.ch h3 (by simp; exact fun b hb e => h.k.nv (e ▸ hb)), h2, h.k.nv, h.k.ch.trans h3 (by simp; exact h.k.vf), h.k.fr, h.k.vf⟩ (fun b hb => .inl hb)⟩
theorem J.done {w0 w : World} {v p s : Nat} {F : List Nat} {l : List Cel} {a f : Nat} {O : List (Nat × Obj)} (h : J w0 w v p s F l a f O) (b : Bool) (hb : decide (l.length ≤ a) = b) :
    Calls Try.prog 11 #[.pointer (some ⟨v, 0, none⟩)] w fun e w' => e = .returned (.bool b) ∧ J w0 w' v p s F l a f O := by
  subst hb
  refine (Done_any w v p s a f F l h.k.is h.k.at').mono ?_
  rintro e w' ⟨h1, d, rfl⟩
  exact ⟨h1, h.chg ((Ch.refl _ _).drewN _)⟩
theorem J.snapshot {w0 w : World} {v p s : Nat} {F : List Nat} {l : List Cel} {a f : Nat} {O : List (Nat × Obj)} (h : J w0 w v p s F l a f O) (n : Nat) (hn : l.length = n) :
    Calls Try.prog 13 #[.pointer (some ⟨p, 0, none⟩)] w fun e w' => ∃ o, e = .returned (.slice (some ⟨o, 0, none⟩) n n) ∧ J w0 w' v p s F l a f ((o, .cells (flat l).toArray 29 (0, 0)) :: O) ∧ w0.heap.size ≤ o := by
  subst hn
  refine (Snapshot_any w p s F l h.k.is).mono ?_
  rintro e w' ⟨h1, h2, h3⟩
  have hj := h.chg h3
  refine ⟨_, h1, ⟨hj.k, fun x hx => ?_⟩, h.k.ch.size⟩
  rcases List.mem_cons.1 hx with rfl | hx
  · exact ⟨h2, fun hm => by have := h.k.is.lt _ hm; simp at this, fun e => by have := lt_of h.k.at'; simp at e; omega⟩
  · exact hj.ob x hx
theorem J.first {w0 w : World} {v p s : Nat} {F : List Nat} {l : List Cel} {a f : Nat} {O : List (Nat × Obj)} {x : Nat × Obj} (h : J w0 w v p s F l a f (x :: O)) : w.heap[x.1]? = some x.2 := (h.ob x (by simp)).1

theorem flat_setc : ∀ (l : List Cel) (k : Nat) (c : Int), k < l.length → (flat l).set (k * 4 + 1) (.int .u8 c) = flat (l.set k { l.getD k free with c := c })
  | [], k, _, h => absurd h (by simp)
  | y :: l, 0, c, _ => by simp [flat_cons]
  | y :: l, k + 1, c, h => by
    rw [show (y :: l).getD (k + 1) free = l.getD k free by simp [List.getD], List.set_cons_succ, flat_cons, flat_cons, ← flat_setc l k c (by simpa using h), show (k + 1) * 4 + 1 = k * 4 + 1 + 4 by omega]
    simp only [List.set_cons_succ]
/-- A row of cells of the law's own. -/
def RowAt (w : World) (q off : Nat) (xs : List Cel) : Prop := ∃ arr, w.heap[q]? = some (.cells arr 29 (0, 0)) ∧ ∀ j, j < xs.length * 4 → arr[off + j]? = (flat xs)[j]?
theorem RowAt.rd {w : World} {q off : Nat} {xs : List Cel} (h : RowAt w q off xs) : Rd w (some ⟨q, off, none⟩) (xs.length * 4) (flat xs) := by
  obtain ⟨arr, h1, h2⟩ := h
  exact ⟨flat_length xs, .inr ⟨q, off, rfl, fun j hj => (cell_at h1).trans (h2 j hj)⟩⟩
theorem RowAt.cell {w : World} {q off : Nat} {xs : List Cel} (h : RowAt w q off xs) (k t : Nat) (hk : k < xs.length) (ht : t < 4) : w.cell? ⟨q, off + (k * 4 + t), none⟩ = (cel (xs.getD k free)).toList[t]? ∧ w.frozen? ⟨q, off + (k * 4 + t), none⟩ = false := by
  obtain ⟨arr, h1, h2⟩ := h
  exact ⟨(cell_at h1).trans ((h2 _ (by omega)).trans (flat_get xs k t hk ht)), free_at h1⟩
theorem RowAt.setc {w : World} {q off : Nat} {xs : List Cel} (h : RowAt w q off xs) (k : Nat) (hk : k < xs.length) (c : Int) : RowAt (w.setCell ⟨q, off + k * 4 + 1, none⟩ (.int .u8 c)) q off (xs.set k { xs.getD k free with c := c }) := by
  obtain ⟨arr, h1, h2⟩ := h
  refine ⟨_, heap_set h1 _, fun j hj => ?_⟩
  rw [List.length_set] at hj
  rw [← flat_setc xs k c hk, Nat.add_assoc]
  by_cases e : j = k * 4 + 1
  · subst e
    have hlt : off + (k * 4 + 1) < arr.size := by
      have := h2 (k * 4 + 1) (by omega)
      rw [List.getElem?_eq_getElem (by rw [flat_length]; omega)] at this
      exact (Array.getElem?_eq_some_iff.1 this).1
    rw [Array.getElem?_setIfInBounds_self_of_lt hlt, List.getElem?_set_self (by rw [flat_length]; omega)]
  · rw [Array.getElem?_setIfInBounds_ne (by omega), List.getElem?_set_ne (by omega)]
    exact h2 j hj
theorem RowAt.ch {w w' : World} {q off : Nat} {xs : List Cel} (h : RowAt w q off xs) (hc : Ch [] w w') : RowAt w' q off xs := by
  obtain ⟨arr, h1, h2⟩ := h
  exact ⟨arr, hc.heap h1 (by simp), h2⟩

/-- own = append(nil, l...). -/
theorem wpList_append_copy (w : World) {ops : Array Oper} {rest : List Oper} {o : Oper} {a : Act} {Q : Exit → Act → World → Prop}
    (hg : o.guard = none) (s x : Operand) (hop : o.op = Op.call { callee := Callee.builtin Builtin.append, args := #[s, x], argTypes := #[23, 23] })
    {ao : Option Addr} {cap n : Nat} {r : List Cel} (hs : a.eval s = .slice none 0 0) (hx : a.eval x = .slice ao n cap) (hrn : r.length = n) (hr : Rd w ao (n * 4) (flat r)) (hn : n ≤ 4096) (h0 : ao = none → cap = 0)
    (hK : ∀ ao' cap' w', (n = 0 ∨ ∃ q off, ao' = some ⟨q, off, none⟩ ∧ w.heap.size ≤ q ∧ RowAt w' q off r) → Ch [] w w' → wpList Try.prog ops Q rest (a.put o.dst (.slice ao' n cap')) w') :
    wpList Try.prog ops Q (o :: rest) a w := by
  subst hrn
  obtain ⟨i, hi, he⟩ := Option.map_eq_some_iff.1 infoCell
  simp only [Prod.mk.injEq] at he
  obtain ⟨e1, e2, e3⟩ := he
  refine wpList_plain hg fun K hK' => ?_
  have key : ∃ ao' cap' w', (Builtin.append_ #[23, 23] o.type #[.slice none 0 0, .slice ao r.length cap]).run Try.prog w = .ok (.slice ao' r.length cap') w' ∧ (r.length = 0 ∨ ∃ q off, ao' = some ⟨q, off, none⟩ ∧ w.heap.size ≤ q ∧ RowAt w' q off r) ∧ Ch [] w w' := by
    cases ao with
    | none =>
      have hl : r.length = 0 := by
        rcases hr.2 with h | ⟨b, off, h, _⟩
        · omega
        · cases h
      rw [hl, h0 rfl]
      refine ⟨none, 0, w, ?_, .inl rfl, Ch.refl _ _⟩
      simp [Builtin.append_, run_underlying Try.underlying23, sizeOf, typeInfo, hi, Builtin.lenOf, storeCells, Builtin.firstCells]
    | some ad =>
      have hcells : ∀ j u, (flat r)[j]? = some u → w.cell? (ad.add j) = some u := by
        intro j u hj
        have hjl : j < r.length * 4 := by
          rcases Nat.lt_or_ge j (r.length * 4) with h | h
          · exact h
          · rw [List.getElem?_eq_none (by rw [flat_length]; exact h)] at hj; cases hj
        rcases hr.2 with h | ⟨b, off, h, hc⟩
        · omega
        · cases h
          rw [Addr.add_lit, hc j hjl]; exact hj
      have h1c : ∀ u ∈ flat r, u.oneCell' = true := by
        intro u hu
        unfold flat at hu
        rw [List.mem_flatMap] at hu
        obtain ⟨y, _, hy⟩ := hu
        simp [cel] at hy
        rcases hy with rfl | rfl | rfl | rfl <;> rfl
      obtain ⟨v', w', qs', k1, k2, k3, k4⟩ := run_append_row (P := Try.prog) w 23 o.type 29 i _ 4 24 Try.underlying23 hi e1 e2 e3 rfl (by decide) (Row.nil w 29 4 []) ad r.length cap (flat r) (flat_length r) hcells h1c (by unfold maxLen; omega) (by omega)
      obtain ⟨hl, ao', cap', rfl, h2, h3, h4, h5⟩ := k2
      refine ⟨ao', cap', w', by rw [k1]; simp, ?_, k3⟩
      rcases h5 with h5 | ⟨q, off, arr, hq, rfl, hh, hfit, hj⟩
      · left; omega
      · right
        refine ⟨q, off, rfl, ?_, arr, hh, fun j hj2 => ?_⟩
        · rcases k4 with rfl | ⟨q', rfl, hq', _⟩
          · cases hq
          · simp at hq; omega
        · rw [hj j (by omega)]; simp
  obtain ⟨ao', cap', w', hrun, h1, h2⟩ := key
  unfold Oper.wp
  simp [execOp, hop, resolve, invoke, builtin, hs, hx, hrun, Result.andThen]
  exact hK' _ _ (hK ao' cap' w' h1 h2)
end Go.Proofs.Ytkcplmablelmbaa.Sw
