/-
  Two sweepers of one heap, the document's beside them: the state of SweepDoes.
-/
import Derived.Test.YtkcplmablelmbaaSweepDoes
set_option linter.unusedVariables false
set_option linter.unusedSimpArgs false
set_option maxRecDepth 100000
namespace Go.Proofs.Ytkcplmablelmbaa.Sw
open Go.ChangeShapes Go.WideShapes Go.Deep Go.RowKit Go.Proofs.Ytkcplmablelmbaa.Hp Go.Proofs.Ytkcplmablelmbaa.Ato Go.Proofs.Ytkcplmablelmbaa.Cp Go.Proofs.Ytkcplmablelmbaa.Cl

/-- A heap of the law's own, and further blocks of its own, all apart. -/
structure M (w0 w : World) (p s : Nat) (F : List Nat) (l : List Cel) (O : List (Nat × Obj)) : Prop where
  is : Is w p s F l
  ch : Ch [] w0 w
  fr : ∀ b ∈ F, w0.heap.size ≤ b
  ob : ∀ x ∈ O, w.heap[x.1]? = some x.2 ∧ x.1 ∉ F ∧ w0.heap.size ≤ x.1
  nd : (O.map (·.1)).Nodup

theorem M.upd {w0 w w' : World} {p s : Nat} {F F' : List Nat} {l l' : List Cel} {O : List (Nat × Obj)} {S : List Nat} (h : M w0 w p s F l O) (hc : Ch S w w') (hS : ∀ x ∈ S, x = s ∨ x ∈ O.map (·.1)) (hi : Is w' p s F' l')
    (hF : ∀ b ∈ F', b ∈ F ∨ w.heap.size ≤ b) (O' : List (Nat × Obj)) (hk : O'.map (·.1) = O.map (·.1)) (ho : ∀ x ∈ O', (x ∈ O ∧ x.1 ∉ S) ∨ w'.heap[x.1]? = some x.2) : M w0 w' p s F' l' O' := by
  have key : ∀ x ∈ O', x.1 ∉ F ∧ w0.heap.size ≤ x.1 ∧ x.1 < w.heap.size := fun x hx => by
    have : x.1 ∈ O.map (·.1) := by rw [← hk]; exact List.mem_map.2 ⟨x, hx, rfl⟩
    obtain ⟨y, hy, he⟩ := List.mem_map.1 this
    have := h.ob y hy
    rw [he] at this
    exact ⟨this.2.1, this.2.2, lt_of this.1⟩
  refine ⟨hi, h.ch.trans hc (fun x hx => .inr ?_), fun b hb => ?_, fun x hx => ⟨?_, fun hm => ?_, (key x hx).2.1⟩, by rw [hk]; exact h.nd⟩
  · rcases hS x hx with rfl | hm
    · exact h.fr _ h.is.sf
    · obtain ⟨y, hy, rfl⟩ := List.mem_map.1 hm
      exact (h.ob y hy).2.2
  · rcases hF b hb with h' | h'
    · exact h.fr b h'
    · exact Nat.le_trans h.ch.size h'
  · rcases ho x hx with ⟨h1, h2⟩ | h1
    · exact hc.heap (h.ob x h1).1 h2
    · exact h1
  · rcases hF _ hm with h' | h'
    · exact (key x hx).1 h'
    · have := (key x hx).2.2; omega
theorem M.chg {w0 w w' : World} {p s : Nat} {F : List Nat} {l : List Cel} {O : List (Nat × Obj)} (h : M w0 w p s F l O) (hc : Ch [] w w') : M w0 w' p s F l O :=
  h.upd hc (by simp) (h.is.ch hc (by simp)) (fun b hb => .inl hb) O rfl (fun x hx => .inl ⟨hx, by simp⟩)
theorem M.to {w0 w w' : World} {p s : Nat} {F : List Nat} {l l' : List Cel} {O : List (Nat × Obj)} (h : M w0 w p s F l O) (ht : To w w' p s F l') : ∃ F', M w0 w' p s F' l' O := by
  obtain ⟨F', h1, h2, h3⟩ := ht
  exact ⟨F', h.upd h2 (by simp) h1 h3 O rfl (fun x hx => .inl ⟨hx, by simp; exact fun e => (h.ob x hx).2.1 (e ▸ h.is.sf)⟩)⟩
theorem M.add {w0 w w' : World} {p s : Nat} {F : List Nat} {l : List Cel} {O : List (Nat × Obj)} (h : M w0 w p s F l O) (hc : Ch [] w w') (o : Nat) (obj : Obj) (hn : w.heap.size ≤ o) (ho : w'.heap[o]? = some obj) : M w0 w' p s F l ((o, obj) :: O) := by
  have h' := h.chg hc
  refine ⟨h'.is, h'.ch, h'.fr, fun x hx => ?_, ?_⟩
  · rcases List.mem_cons.1 hx with rfl | hx
    · exact ⟨ho, fun hm => by have := h.is.lt _ hm; simp at this; omega, Nat.le_trans h.ch.size hn⟩
    · exact h'.ob x hx
  · rw [List.map_cons, List.nodup_cons]
    refine ⟨fun hm => ?_, h.nd⟩
    obtain ⟨y, hy, he⟩ := List.mem_map.1 hm
    have := lt_of (h.ob y hy).1
    simp at he; omega
theorem M.sub {w0 w : World} {p s : Nat} {F : List Nat} {l : List Cel} {O : List (Nat × Obj)} (h : M w0 w p s F l O) (O' : List (Nat × Obj)) (hs : O'.Sublist O) : M w0 w p s F l O' :=
  ⟨h.is, h.ch, h.fr, fun x hx => h.ob x (hs.subset hx), (hs.map _).nodup h.nd⟩
theorem M.perm {w0 w : World} {p s : Nat} {F : List Nat} {l : List Cel} {O : List (Nat × Obj)} (h : M w0 w p s F l O) (O' : List (Nat × Obj)) (hs : O'.Perm O) : M w0 w p s F l O' :=
  ⟨h.is, h.ch, h.fr, fun x hx => h.ob x (hs.subset hx), (hs.map _).nodup_iff.2 h.nd⟩

theorem M.some {w0 w : World} {p s : Nat} {F : List Nat} {l : List Cel} {O : List (Nat × Obj)} (h : M w0 w p s F l O) (O' : List (Nat × Obj)) (hs : ∀ x ∈ O', x ∈ O) (hn : (O'.map (·.1)).Nodup) : M w0 w p s F l O' :=
  ⟨h.is, h.ch, h.fr, fun x hx => h.ob x (hs x hx), hn⟩

def swO (p a f : Nat) : Obj := .cells #[.int .i64 a, .int .i64 f, .pointer (some ⟨p, 0, none⟩)] 43 (0, 0)
def rfO (a f : Nat) : Obj := .cells #[.int .i64 a, .int .i64 f] 61 (0, 0)
def clO (l : List Cel) : Obj := .cells (flat l).toArray 29 (0, 0)
def ptO (t : TypeId) (x y : Nat) : Obj := .cells #[.pointer (some ⟨x, 0, none⟩), .pointer (some ⟨y, 0, none⟩)] t (0, 0)
/-- Which of the two goes on (v, u), and which one waits. -/
def Who (k v v' u u' x0 x1 y0 y1 : Nat) : Prop := (k = 0 ∧ x0 = v ∧ x1 = v' ∧ y0 = u ∧ y1 = u') ∨ (k = 1 ∧ x0 = v' ∧ x1 = v ∧ y0 = u' ∧ y1 = u)
/-- THE STATE: the heap holds l, the last snapshot lw; who goes on is at a, f, the document's beside it at b, g; who waits at a', f', as the document's. -/
def Two (w0 w : World) (p s : Nat) (F : List Nat) (l lw : List Cel) (k v v' u u' o bs br a f b g a' f' : Nat) : Prop := ∃ x0 x1 y0 y1, Who k v v' u u' x0 x1 y0 y1 ∧
  M w0 w p s F l [(v, swO p a f), (v', swO p a' f'), (u, rfO b g), (u', rfO a' f'), (o, clO lw), (bs, ptO 33 x0 x1), (br, ptO 52 y0 y1)]
section
variable {w0 w : World} {p s : Nat} {F : List Nat} {l lw : List Cel} {k v v' u u' o bs br a f b g a' f' : Nat}
theorem Two.swap (h : Two w0 w p s F l lw k v v' u u' o bs br a f a f a' f') : Two w0 w p s F l lw (1 - k) v' v u' u o bs br a' f' a' f' a f := by
  obtain ⟨x0, x1, y0, y1, hw, hm⟩ := h
  refine ⟨x0, x1, y0, y1, ?_, hm.perm _ ?_⟩
  · rcases hw with ⟨rfl, h1, h2, h3, h4⟩ | ⟨rfl, h1, h2, h3, h4⟩
    · exact .inr ⟨rfl, h1, h2, h3, h4⟩
    · exact .inl ⟨rfl, h1, h2, h3, h4⟩
  · refine (List.Perm.swap _ _ _).trans (.cons _ (.cons _ (List.Perm.swap _ _ _)))
theorem Two.klt (h : Two w0 w p s F l lw k v v' u u' o bs br a f b g a' f') : k ≤ 1 := by
  obtain ⟨x0, x1, y0, y1, hw, _⟩ := h
  rcases hw with ⟨rfl, _⟩ | ⟨rfl, _⟩ <;> omega
theorem Two.is (h : Two w0 w p s F l lw k v v' u u' o bs br a f b g a' f') : Is w p s F l := by
  obtain ⟨x0, x1, y0, y1, hw, hm⟩ := h
  exact hm.is
theorem Two.ch (h : Two w0 w p s F l lw k v v' u u' o bs br a f b g a' f') : Ch [] w0 w := by
  obtain ⟨x0, x1, y0, y1, hw, hm⟩ := h
  exact hm.ch
theorem Two.apart (h : Two w0 w p s F l lw k v v' u u' o bs br a f b g a' f') : o ≠ u ∧ v ∉ F := by
  obtain ⟨x0, x1, y0, y1, hw, hm⟩ := h
  have nd := hm.nd
  simp at nd
  exact ⟨by omega, (hm.ob (v, swO p a f) (by simp)).2.1⟩
theorem Two.cells (h : Two w0 w p s F l lw k v v' u u' o bs br a f b g a' f') :
    w.cell? ⟨bs, k, none⟩ = some (.pointer (some ⟨v, 0, none⟩)) ∧ w.cell? ⟨br, k, none⟩ = some (.pointer (some ⟨u, 0, none⟩)) ∧ w.cell? ⟨u, 0, none⟩ = some (.int .i64 b) ∧ w.cell? ⟨u, 1, none⟩ = some (.int .i64 g) ∧ At w v p a f ∧ RAt w u b g ∧ w.heap[o]? = some (clO lw) := by
  obtain ⟨x0, x1, y0, y1, hw, hm⟩ := h
  have hu := (hm.ob (u, rfO b g) (by simp)).1
  have hb := (hm.ob (bs, ptO 33 x0 x1) (by simp)).1
  have hr := (hm.ob (br, ptO 52 y0 y1) (by simp)).1
  refine ⟨?_, ?_, cell_at (i := 0) hu, cell_at (i := 1) hu, (hm.ob (v, swO p a f) (by simp)).1, hu, (hm.ob (o, clO lw) (by simp)).1⟩
  · rcases hw with ⟨rfl, rfl, rfl, rfl, rfl⟩ | ⟨rfl, rfl, rfl, rfl, rfl⟩
    · exact cell_at (i := 0) hb
    · exact cell_at (i := 1) hb
  · rcases hw with ⟨rfl, rfl, rfl, rfl, rfl⟩ | ⟨rfl, rfl, rfl, rfl, rfl⟩
    · exact cell_at (i := 0) hr
    · exact cell_at (i := 1) hr
theorem Two.chg {w' : World} (h : Two w0 w p s F l lw k v v' u u' o bs br a f b g a' f') (hc : Ch [] w w') : Two w0 w' p s F l lw k v v' u u' o bs br a f b g a' f' := by
  obtain ⟨x0, x1, y0, y1, hw, hm⟩ := h
  exact ⟨x0, x1, y0, y1, hw, hm.chg hc⟩
theorem Two.sw {w' : World} {F' : List Nat} {l' : List Cel} {a1 f1 : Nat} (h : Two w0 w p s F l lw k v v' u u' o bs br a f b g a' f') (hc : Ch [s, v] w w') (hi : Is w' p s F' l') (hF : ∀ b ∈ F', b ∈ F ∨ w.heap.size ≤ b) (ha : At w' v p a1 f1) :
    Two w0 w' p s F' l' lw k v v' u u' o bs br a1 f1 b g a' f' := by
  obtain ⟨x0, x1, y0, y1, hw, hm⟩ := h
  have nd := hm.nd
  have sf := hm.is.sf
  have n1 := (hm.ob (v', swO p a' f') (by simp)).2.1
  have n2 := (hm.ob (u, rfO b g) (by simp)).2.1
  have n3 := (hm.ob (u', rfO a' f') (by simp)).2.1
  have n4 := (hm.ob (o, clO lw) (by simp)).2.1
  have n5 := (hm.ob (bs, ptO 33 x0 x1) (by simp)).2.1
  have n6 := (hm.ob (br, ptO 52 y0 y1) (by simp)).2.1
  refine ⟨x0, x1, y0, y1, hw, hm.upd hc (by simp) hi hF _ rfl fun x hx => ?_⟩
  simp at nd
  have out : ∀ y, y ∉ F → y ≠ v → y ∉ [s, v] := fun y h1 h2 hq => by
    rcases List.mem_cons.1 hq with e | e
    · rw [e] at h1; exact h1 sf
    · exact h2 (List.mem_singleton.1 e)
  obtain ⟨⟨d1, d2, d3, d4, d5, d6⟩, _⟩ := nd
  have m1 := out v' n1 (fun e => d1 e.symm)
  have m2 := out u n2 (fun e => d2 e.symm)
  have m3 := out u' n3 (fun e => d3 e.symm)
  have m4 := out o n4 (fun e => d4 e.symm)
  have m5 := out bs n5 (fun e => d5 e.symm)
  have m6 := out br n6 (fun e => d6 e.symm)
  clear out n1 n2 n3 n4 n5 n6 d1 d2 d3 d4 d5 d6 hw hm hi hF hc sf
  rcases List.mem_cons.1 hx with e | hx
  · subst e; exact .inr ha
  rcases List.mem_cons.1 hx with e | hx
  · subst e; exact .inl ⟨by simp, m1⟩
  rcases List.mem_cons.1 hx with e | hx
  · subst e; exact .inl ⟨by simp, m2⟩
  rcases List.mem_cons.1 hx with e | hx
  · subst e; exact .inl ⟨by simp, m3⟩
  rcases List.mem_cons.1 hx with e | hx
  · subst e; exact .inl ⟨by simp, m4⟩
  rcases List.mem_cons.1 hx with e | hx
  · subst e; exact .inl ⟨by simp, m5⟩
  rcases List.mem_cons.1 hx with e | hx
  · subst e; exact .inl ⟨by simp, m6⟩
  · cases hx
theorem Two.rf {w' : World} {l' : List Cel} {b1 g1 : Nat} (h : Two w0 w p s F l lw k v v' u u' o bs br a f b g a' f') (hc : Ch [o, u] w w') (hr : RAt w' u b1 g1) (ho : w'.heap[o]? = some (clO l')) :
    Two w0 w' p s F l l' k v v' u u' o bs br a f b1 g1 a' f' := by
  obtain ⟨x0, x1, y0, y1, hw, hm⟩ := h
  have nd := hm.nd
  have ho1 := (hm.ob (o, clO lw) (by simp)).2.1
  have hu1 := (hm.ob (u, rfO b g) (by simp)).2.1
  refine ⟨x0, x1, y0, y1, hw, hm.upd hc (by simp) (hm.is.ch hc (fun y hy => ?_)) (fun y hy => .inl hy) _ rfl fun x hx => ?_⟩
  · simp only [List.mem_cons, List.not_mem_nil, or_false, not_or]
    exact ⟨fun e => ho1 (e ▸ hy), fun e => hu1 (e ▸ hy)⟩
  simp at nd
  simp only [List.mem_cons, List.not_mem_nil, or_false] at hx ⊢
  rcases hx with rfl | rfl | rfl | rfl | rfl | rfl | rfl
  · exact .inl ⟨by simp, by simp only; omega⟩
  · exact .inl ⟨by simp, by simp only; omega⟩
  · exact .inr hr
  · exact .inl ⟨by simp, by simp only; omega⟩
  · exact .inr ho
  · exact .inl ⟨by simp, by simp only; omega⟩
  · exact .inl ⟨by simp, by simp only; omega⟩
theorem Two.snap {w' : World} {o' : Nat} (h : Two w0 w p s F l lw k v v' u u' o bs br a f b g a' f') (hc : Ch [] w w') (hn : w.heap.size ≤ o') (ho : w'.heap[o']? = some (clO l)) :
    Two w0 w' p s F l l k v v' u u' o' bs br a f b g a' f' := by
  obtain ⟨x0, x1, y0, y1, hw, hm⟩ := h
  refine ⟨x0, x1, y0, y1, hw, ((hm.add hc o' _ hn ho).sub [(o', clO l), (v, swO p a f), (v', swO p a' f'), (u, rfO b g), (u', rfO a' f'), (bs, ptO 33 x0 x1), (br, ptO 52 y0 y1)] ?_).perm _ ?_⟩
  · refine .cons_cons _ (.cons_cons _ (.cons_cons _ (.cons_cons _ (.cons_cons _ (.cons _ (List.Sublist.refl _))))))
  · exact (List.perm_middle (l₁ := [(v, swO p a f), (v', swO p a' f'), (u, rfO b g), (u', rfO a' f')]) (a := (o', clO l)))
theorem Two.to {w' : World} {l' : List Cel} (h : Two w0 w p s F l lw k v v' u u' o bs br a f b g a' f') (ht : To w w' p s F l') : ∃ F', Two w0 w' p s F' l' lw k v v' u u' o bs br a f b g a' f' := by
  obtain ⟨x0, x1, y0, y1, hw, hm⟩ := h
  obtain ⟨F', h'⟩ := hm.to ht
  exact ⟨F', x0, x1, y0, y1, hw, h'⟩
end
end Go.Proofs.Ytkcplmablelmbaa.Sw
