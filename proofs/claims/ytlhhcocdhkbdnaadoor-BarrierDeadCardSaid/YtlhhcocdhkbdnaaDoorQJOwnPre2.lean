/-
  LISTS THAT ARE NOBODY ELSE's (for dappleref00.Book.Own): slices in blocks of their own, which are written over, grow, and are looked at (no program).
  LISTS THAT ARE NOBODY ELSE's, on: the states of an own.. function, and how they go on (no program).
-/
import Derived.Test.YtlhhcocdhkbdnaaDoorQJApp
set_option linter.unusedVariables false
set_option linter.unusedSimpArgs false
namespace Go.Proofs.YtlhhcocdhkbdnaaDoor.Own
open Go.RowKit Go.Proofs.YtlhhcocdhkbdnaaDoor.Hp

/-- A slice value. -/
structure SV where
  ao : Option Addr
  n : Nat
  cap : Nat
def SV.val (v : SV) : Value := .slice v.ao v.n v.cap
def SV.nil : SV := ⟨none, 0, 0⟩
/-- The blocks in which it has room: none, or one. -/
def SV.bk (v : SV) : List Nat := if v.cap = 0 then [] else match v.ao with | some a => [a.block] | none => []

/-- It has room of its own, in a block that may be written. -/
def Room (w : World) (e : TypeId) (sz : Nat) (v : SV) : Prop := v.n ≤ v.cap ∧ v.cap ≤ maxLen ∧ (v.ao = none → v.cap = 0) ∧ (v.cap = 0 ∨ ∃ q off arr, v.ao = some ⟨q, off, none⟩ ∧ w.heap[q]? = some (.cells arr e (0, 0)) ∧ off + v.cap * sz ≤ arr.size)
theorem Room.keep {w w' : World} {e : TypeId} {sz : Nat} {v : SV} (h : Room w e sz v) (hb : ∀ q ∈ v.bk, ∀ o, w.heap[q]? = some o → w'.heap[q]? = some o) : Room w' e sz v := by
  obtain ⟨h1, h2, h3, h4⟩ := h
  refine ⟨h1, h2, h3, ?_⟩
  rcases h4 with h4 | ⟨q, off, arr, ha, hh, hs⟩
  · exact .inl h4
  · by_cases hc : v.cap = 0
    · exact .inl hc
    · exact .inr ⟨q, off, arr, ha, hb q (by simp [SV.bk, hc, ha]) _ hh, hs⟩
theorem Room.lt {w : World} {e : TypeId} {sz : Nat} {v : SV} (h : Room w e sz v) : ∀ q ∈ v.bk, q < w.heap.size := by
  intro q hq
  obtain ⟨h1, h2, h3, h4⟩ := h
  unfold SV.bk at hq
  by_cases hc : v.cap = 0
  · rw [if_pos hc] at hq; cases hq
  · obtain ⟨q', off, arr, ha, hh, hs⟩ := h4.resolve_left hc
    rw [if_neg hc, ha] at hq
    simp at hq
    subst hq
    exact lt_of hh
/-- .. and its first m elements read as xs. -/
def Has (w : World) (e : TypeId) (sz : Nat) (v : SV) (xs : List Value) : Prop := Room w e sz v ∧ ∃ m, xs.length = m * sz ∧ m ≤ v.n ∧ (m = 0 ∨ ∃ q off arr, v.ao = some ⟨q, off, none⟩ ∧ w.heap[q]? = some (.cells arr e (0, 0)) ∧ ∀ j, j < xs.length → arr[off + j]? = xs[j]?)
theorem Has.start {w : World} {e : TypeId} {sz : Nat} {v : SV} (h : Room w e sz v) : Has w e sz v [] := ⟨h, 0, by simp, by omega, .inl rfl⟩
theorem Has.keep {w w' : World} {e : TypeId} {sz : Nat} {v : SV} {xs : List Value} (h : Has w e sz v xs) (hb : ∀ q ∈ v.bk, ∀ o, w.heap[q]? = some o → w'.heap[q]? = some o) : Has w' e sz v xs := by
  obtain ⟨hr, m, h1, h2, h3⟩ := h
  refine ⟨hr.keep hb, m, h1, h2, ?_⟩
  rcases h3 with h3 | ⟨q, off, arr, ha, hh, hj⟩
  · exact .inl h3
  · by_cases hc : v.cap = 0
    · left; have := hr.1; omega
    · exact .inr ⟨q, off, arr, ha, hb q (by simp [SV.bk, hc, ha]) _ hh, hj⟩
/-- It is a row of the walk's own when all its elements are told. -/
theorem Has.row {w : World} {e : TypeId} {sz : Nat} {v : SV} {xs : List Value} (h : Has w e sz v xs) (hl : xs.length = v.n * sz) (hsz : 0 < sz) : Row w e sz v.val v.bk v.n xs := by
  obtain ⟨⟨h1, h2, h3, h4⟩, m, k1, k2, k3⟩ := h
  obtain rfl : m = v.n := Nat.eq_of_mul_eq_mul_right hsz (k1.symm.trans hl)
  refine ⟨hl, v.ao, v.cap, rfl, h1, h2, h3, ?_⟩
  by_cases hc : v.cap = 0
  · exact .inl hc
  · right
    obtain ⟨q, off, arr, ha, hh, hs⟩ := h4.resolve_left hc
    refine ⟨q, off, arr, by simp [SV.bk, hc, ha], ha, hh, hs, fun j hj => ?_⟩
    rcases k3 with k3 | ⟨q', off', arr', ha', hh', hj'⟩
    · rw [k3] at hj; simp at hj
    · rw [ha] at ha'
      simp only [Option.some.injEq, Addr.mk.injEq, and_true] at ha'
      obtain ⟨rfl, rfl⟩ := ha'
      rw [hh] at hh'
      simp only [Option.some.injEq, Obj.cells.injEq, and_true] at hh'
      obtain rfl := hh'
      exact hj' j (by rw [hl]; exact hj)

/-- One more element is laid. -/
theorem Has.put {w : World} {e : TypeId} {sz : Nat} {v : SV} {xs : List Value} (h : Has w e sz v xs) (k : Nat) (hk : k < v.n) (hx : xs.length = k * sz) (us : List Value) (hu : us.length = sz) : ∃ q off arr, v.ao = some ⟨q, off, none⟩ ∧ q ∈ v.bk ∧ w.heap[q]? = some (.cells arr e (0, 0)) ∧ off + k * sz + sz ≤ arr.size ∧
    ∀ w' arr', w'.heap[q]? = some (.cells arr' e (0, 0)) → arr'.size = arr.size → (∀ j, j < k * sz → arr'[off + j]? = arr[off + j]?) → (∀ t, t < sz → arr'[off + k * sz + t]? = us[t]?) → Has w' e sz v (xs ++ us) := by
  obtain ⟨⟨h1, h2, h3, h4⟩, m, k1, k2, k3⟩ := h
  have hc : v.cap ≠ 0 := by omega
  obtain ⟨q, off, arr, ha, hh, hs⟩ := h4.resolve_left hc
  have hle : (k + 1) * sz ≤ v.cap * sz := Nat.mul_le_mul_right _ (by omega)
  rw [Nat.add_mul, Nat.one_mul] at hle
  refine ⟨q, off, arr, ha, by simp [SV.bk, hc, ha], hh, by omega, fun w' arr' g1 g2 g3 g4 => ?_⟩
  refine ⟨⟨h1, h2, h3, .inr ⟨q, off, _, ha, g1, by omega⟩⟩, k + 1, by rw [List.length_append, hx, hu, Nat.add_mul, Nat.one_mul], by omega, .inr ⟨q, off, _, ha, g1, fun j hj => ?_⟩⟩
  rw [List.length_append, hx, hu] at hj
  by_cases e1 : j < k * sz
  · rw [g3 j e1, List.getElem?_append_left (by omega)]
    rcases k3 with k3 | ⟨q', off', arr', ha', hh2, hj'⟩
    · rw [k3] at k1; omega
    · rw [ha] at ha'
      simp only [Option.some.injEq, Addr.mk.injEq, and_true] at ha'
      obtain ⟨rfl, rfl⟩ := ha'
      rw [hh] at hh2
      simp only [Option.some.injEq, Obj.cells.injEq, and_true] at hh2
      obtain rfl := hh2
      exact hj' j (by omega)
  · rw [List.getElem?_append_right (by omega), hx, ← g4 (j - k * sz) (by omega), show off + k * sz + (j - k * sz) = off + j by omega]
theorem Has.at1 {w : World} {e : TypeId} {v : SV} {xs : List Value} (h : Has w e 1 v xs) (k : Nat) (hk : k < v.n) (hx : xs.length = k) : ∃ q off, v.ao = some ⟨q, off, none⟩ ∧ q ∈ v.bk ∧ (∃ u, w.cell? ⟨q, off + k, none⟩ = some u) ∧ w.frozen? ⟨q, off + k, none⟩ = false ∧
    ∀ u, Has (w.setCell ⟨q, off + k, none⟩ u) e 1 v (xs ++ [u]) := by
  obtain ⟨q, off, arr, ha, hq, hh, hs, H⟩ := h.put k hk (by omega) [.bool true] rfl
  refine ⟨q, off, ha, hq, ⟨arr[off + k]'(by omega), by rw [cell_at hh, Array.getElem?_eq_getElem (by omega)]⟩, free_at hh, fun u => ?_⟩
  obtain ⟨q', off', arr', ha', hq', hh', hs', H⟩ := h.put k hk (by omega) [u] rfl
  rw [ha] at ha'
  simp only [Option.some.injEq, Addr.mk.injEq, and_true] at ha'
  obtain ⟨rfl, rfl⟩ := ha'
  rw [hh] at hh'
  simp only [Option.some.injEq, Obj.cells.injEq, and_true] at hh'
  obtain rfl := hh'
  refine H _ _ (heap_set (i := off + k) hh u) (by simp) (fun j hj => Array.getElem?_setIfInBounds_ne (by omega)) (fun t ht => ?_)
  obtain rfl : t = 0 := by omega
  rw [Nat.mul_one, Nat.add_zero, Array.getElem?_setIfInBounds_self_of_lt (by omega)]; rfl
theorem Has.at2 {w : World} {e : TypeId} {v : SV} {xs : List Value} (h : Has w e 2 v xs) (k : Nat) (hk : k < v.n) (hx : xs.length = k * 2) : ∃ q off, v.ao = some ⟨q, off, none⟩ ∧ q ∈ v.bk ∧ (∃ u, w.cell? ⟨q, off + k * 2, none⟩ = some u) ∧ (∃ u, w.cell? ⟨q, off + k * 2 + 1, none⟩ = some u) ∧ w.frozen? ⟨q, off + k * 2, none⟩ = false ∧ w.frozen? ⟨q, off + k * 2 + 1, none⟩ = false ∧
    ∀ u u', Has ((w.setCell ⟨q, off + k * 2, none⟩ u).setCell ⟨q, off + k * 2 + 1, none⟩ u') e 2 v (xs ++ [u, u']) := by
  obtain ⟨q, off, arr, ha, hq, hh, hs, H⟩ := h.put k hk hx [.bool true, .bool true] rfl
  refine ⟨q, off, ha, hq, ⟨arr[off + k * 2]'(by omega), by rw [cell_at hh, Array.getElem?_eq_getElem (by omega)]⟩, ⟨arr[off + k * 2 + 1]'(by omega), by rw [cell_at hh, Array.getElem?_eq_getElem (by omega)]⟩, free_at hh, free_at hh, fun u u' => ?_⟩
  obtain ⟨q', off', arr', ha', hq', hh', hs', H⟩ := h.put k hk hx [u, u'] rfl
  rw [ha] at ha'
  simp only [Option.some.injEq, Addr.mk.injEq, and_true] at ha'
  obtain ⟨rfl, rfl⟩ := ha'
  rw [hh] at hh'
  simp only [Option.some.injEq, Obj.cells.injEq, and_true] at hh'
  obtain rfl := hh'
  refine H _ _ (heap_set (i := off + k * 2 + 1) (heap_set (i := off + k * 2) hh u) u') (by simp) (fun j hj => by rw [Array.getElem?_setIfInBounds_ne (by omega), Array.getElem?_setIfInBounds_ne (by omega)]) (fun t ht => ?_)
  have : t = 0 ∨ t = 1 := by omega
  rcases this with rfl | rfl
  · show ((arr.setIfInBounds (off + k * 2) u).setIfInBounds (off + k * 2 + 1) u')[off + k * 2]? = some u
    rw [Array.getElem?_setIfInBounds_ne (by omega), Array.getElem?_setIfInBounds_self_of_lt (by omega)]
  · rw [Array.getElem?_setIfInBounds_self_of_lt (by simp; omega)]; rfl
/-- Reading what is told. -/
theorem Has.read {w : World} {e : TypeId} {sz : Nat} {v : SV} {xs : List Value} (h : Has w e sz v xs) (hp : 0 < xs.length) : ∃ q off, v.ao = some ⟨q, off, none⟩ ∧ ∀ j, j < xs.length → w.cell? ⟨q, off + j, none⟩ = xs[j]? := by
  obtain ⟨_, m, k1, k2, k3⟩ := h
  rcases k3 with k3 | ⟨q, off, arr, ha, hh, hj⟩
  · rw [k3] at k1; omega
  · exact ⟨q, off, ha, fun j hj2 => (cell_at hh).trans (hj j hj2)⟩

/-- What an append has done: it found room behind, or a new block was made. -/
def Grew (w w' : World) (e : TypeId) (sz : Nat) (ao : Option Addr) (n cap m : Nat) (v' : Value) (qs qs' : List Nat) : Prop :=
  (v' = .slice ao (n + m) cap ∧ qs' = qs ∧ ∃ q off arr arr', ao = some ⟨q, off, none⟩ ∧ q ∈ qs ∧ w.heap[q]? = some (.cells arr e (0, 0)) ∧ w'.heap[q]? = some (.cells arr' e (0, 0)) ∧ arr'.size = arr.size ∧ (∀ j, j < off + n * sz → arr'[j]? = arr[j]?) ∧ Ch [q] w w') ∨
  (∃ q', qs' = [q'] ∧ w.heap.size ≤ q' ∧ q' < w'.heap.size ∧ Ch [] w w')

theorem run_append_grew {P : Program} (w : World) (t ty e : TypeId) (i : TypeInfo) (z : Value) (size bytes : Nat) (ht : P.underlying t = some (.slice e)) (hi : P.info? e = some i) (hz : i.zero = some z)
    (hsize : i.size = size) (hby : i.bytes = bytes) (hzs : z.cells.size = size) (hsz : 0 < size)
    {ao : Option Addr} {n cap : Nat} {qs : List Nat} {xs : List Value} (hrow : Row w e size (.slice ao n cap) qs n xs)
    (ad : Addr) (m c : Nat) (news : List Value) (hl : news.length = m * size) (hnews : ∀ j u, news[j]? = some u → w.cell? (ad.add j) = some u) (h1 : ∀ u ∈ news, u.oneCell' = true) (hm : 0 < m)
    (h63 : n + m ≤ maxLen) (hbytes : (n + m) * bytes ≤ 140737488355328) :
    ∃ v' w' qs', (Builtin.append_ #[t, t] ty #[.slice ao n cap, .slice (some ad) m c]).run P w = .ok v' w' ∧ Row w' e size v' qs' (n + m) (xs ++ news) ∧ Grew w w' e size ao n cap m v' qs qs' := by
  subst hsize
  obtain ⟨hlx, ao', cap', hv, hnc, hcm, hnil, hr⟩ := hrow
  simp only [Value.slice.injEq, true_and] at hv
  obtain ⟨rfl, rfl⟩ := hv
  have hlen : (xs ++ news).length = (n + m) * i.size := by rw [List.length_append, hlx, hl, Nat.add_mul]
  by_cases hroom : n + m ≤ cap
  · have hcap : cap ≠ 0 := by omega
    obtain ⟨q, off, arr, hq, rfl, hh, hfit, hj⟩ := hr.resolve_left hcap
    have hle : (n + m) * i.size ≤ cap * i.size := Nat.mul_le_mul_right _ hroom
    have hmul : (n + m) * i.size = n * i.size + m * i.size := Nat.add_mul _ _ _
    obtain ⟨arr', g1, g2, g3, g4, g5⟩ := heap_setCells q news (off + n * i.size) w arr e (0, 0) hh (by rw [hl]; omega)
    have hrun := run_append_room_cells (P := P) w t ty e i ht hi q off n cap ad m c news hl hnews h1 hroom
      (fun j hj => by rw [cell_at hh, Array.getElem?_eq_getElem (by omega)]; rfl) (fun j _ => free_at hh)
    refine ⟨_, _, qs, hrun, ⟨hlen, _, cap, rfl, hroom, hcm, (by intro h; cases h), .inr ⟨q, off, arr', hq, rfl, g1, by omega, fun j hj2 => ?_⟩⟩, .inl ⟨rfl, rfl, q, off, arr, arr', rfl, hq, hh, g1, g2, g3, g5⟩⟩
    by_cases hlt : j < n * i.size
    · rw [g3 _ (by omega), hj j hlt, List.getElem?_append_left (by omega)]
    · rw [List.getElem?_append_right (by omega), hlx]
      have := g4 (j - n * i.size) (by omega)
      rwa [show off + n * i.size + (j - n * i.size) = off + j by omega] at this
  · have fin : ∀ (v' : Value) (w' : World), w'.ownsRow w.heap.size e i.size v' (n + m) (xs ++ news) → w.grownBy w' none → (Builtin.append_ #[t, t] ty #[.slice ao n cap, .slice (some ad) m c]).run P w = .ok v' w' →
        ∃ v' w' qs', (Builtin.append_ #[t, t] ty #[.slice ao n cap, .slice (some ad) m c]).run P w = .ok v' w' ∧ Row w' e i.size v' qs' (n + m) (xs ++ news) ∧ Grew w w' e i.size ao n cap m v' qs qs' := by
      intro v' w' ho hg hrun
      rcases Row.of_owns ho with ⟨_, h0, _⟩ | ⟨q', hr', hq'⟩
      · omega
      · exact ⟨v', w', [q'], hrun, hr', .inr ⟨q', rfl, hq'.1, hq'.2, (Ch.of_grown hg).mono (fun x hx => by simp at hx)⟩⟩
    cases ao with
    | some b =>
      obtain ⟨v', w', hrun, r1, r2⟩ := run_append_arg_grows (P := P) w t ty e i z i.size bytes ht hi hz rfl hby hzs hsz b n cap xs hlx (fun j u hj2 => by
        rcases hr with h0 | ⟨q, off, arr, hq, ha, hh, hfit, hj⟩
        · obtain rfl : n = 0 := by omega
          have : xs = [] := List.eq_nil_of_length_eq_zero (by simpa using hlx)
          subst this; simp at hj2
        · cases ha
          have hjl : j < n * i.size := by rw [← hlx]; rcases Nat.lt_or_ge j xs.length with h | h; exact h; simp [List.getElem?_eq_none h] at hj2
          rw [Addr.add_lit, cell_at hh, hj j hjl]; exact hj2) ad m c news hl hnews (by omega) h63 hbytes
      exact fin v' w' r1 r2 hrun
    | none =>
      obtain rfl := hnil rfl
      obtain rfl : n = 0 := by omega
      obtain rfl : xs = [] := List.eq_nil_of_length_eq_zero (by simpa using hlx)
      obtain ⟨v', w', hrun, r1, r2, _⟩ := run_append_own (P := P) w w.heap.size t ty e i z i.size bytes ht hi hz rfl hby hzs hsz (.slice none 0 0) 0 [] (World.ownsRow_nil w _ e i.size) ad m c news hl hnews h1 h63 hbytes (Nat.le_refl _)
      exact fin v' w' r1 r2 hrun
theorem wpList_append_grew {P : Program} (w : World) {ops : Array Oper} {rest : List Oper} {o : Oper} {a : Act} {Q : Exit → Act → World → Prop}
    (hg : o.guard = none) (s x : Operand) (t : TypeId) (hop : o.op = Op.call { callee := Callee.builtin Builtin.append, args := #[s, x], argTypes := #[t, t] })
    (e : TypeId) (i : TypeInfo) (z : Value) (size bytes : Nat) (h1 : P.underlying t = some (.slice e)) (h2 : P.info? e = some i) (h3 : i.zero = some z) (h4 : i.size = size) (h5 : i.bytes = bytes) (h6 : z.cells.size = size) (h7 : 0 < size)
    {ao : Option Addr} {n cap : Nat} {qs : List Nat} {xs : List Value} (hs : a.eval s = .slice ao n cap) (hrow : Row w e size (.slice ao n cap) qs n xs)
    (ad : Addr) (m c : Nat) (news : List Value) (hx : a.eval x = .slice (some ad) m c) (hn : news.length = m * size) (hc : ∀ j u, news[j]? = some u → w.cell? (ad.add j) = some u) (h1c : ∀ u ∈ news, u.oneCell' = true) (hm : 0 < m)
    (b1 : n + m ≤ maxLen) (b2 : (n + m) * bytes ≤ 140737488355328)
    (hK : ∀ v' w' qs', Row w' e size v' qs' (n + m) (xs ++ news) → Grew w w' e size ao n cap m v' qs qs' → wpList P ops Q rest (a.put o.dst v') w') :
    wpList P ops Q (o :: rest) a w := by
  refine wpList_plain hg fun K hK' => ?_
  obtain ⟨v', w', q', hrun, r1, r2⟩ := run_append_grew (P := P) w t o.type e i z size bytes h1 h2 h3 h4 h5 h6 h7 hrow ad m c news hn hc h1c hm b1 b2
  unfold Oper.wp
  simp [execOp, hop, resolve, invoke, builtin, hs, hx, hrun, Result.andThen]
  exact hK' _ _ (hK v' w' q' r1 r2)
end Go.Proofs.YtlhhcocdhkbdnaaDoor.Own

set_option linter.unusedVariables false
set_option linter.unusedSimpArgs false
namespace Go.Proofs.YtlhhcocdhkbdnaaDoor.Own
open Go.RowKit Go.Proofs.YtlhhcocdhkbdnaaDoor.Hp

def rowOf (f : Nat → List Value) (m : Nat) : List Value := (List.range m).flatMap f
theorem rowOf_zero (f : Nat → List Value) : rowOf f 0 = [] := rfl
theorem rowOf_succ (f : Nat → List Value) (m : Nat) : rowOf f (m + 1) = rowOf f m ++ f m := by simp [rowOf, List.range_succ]
theorem rowOf_len {f : Nat → List Value} {sz : Nat} (hf : ∀ k, (f k).length = sz) : ∀ m, (rowOf f m).length = m * sz
  | 0 => by simp [rowOf]
  | m + 1 => by rw [rowOf_succ, List.length_append, rowOf_len hf m, hf, Nat.add_mul, Nat.one_mul]
theorem rowOf_get {f : Nat → List Value} {sz : Nat} (hf : ∀ k, (f k).length = sz) (k t : Nat) (ht : t < sz) : ∀ m, k < m → (rowOf f m)[k * sz + t]? = (f k)[t]?
  | 0, h => absurd h (by omega)
  | m + 1, h => by
    rw [rowOf_succ]
    have hl := rowOf_len hf m
    by_cases e : k = m
    · subst e; rw [List.getElem?_append_right (by omega), hl]; congr 1; omega
    · have : (k + 1) * sz ≤ m * sz := Nat.mul_le_mul_right _ (by omega)
      rw [Nat.add_mul, Nat.one_mul] at this
      rw [List.getElem?_append_left (by omega)]; exact rowOf_get hf k t ht m (by omega)

/-- N slices, each with room of its own in the blocks of S. -/
structure LLs (w : World) (e : TypeId) (sz : Nat) (bo : Option Addr) (N : Nat) (V : Nat → SV) (S : List Nat) : Prop where
  cells : N = 0 ∨ ∃ b off, bo = some ⟨b, off, none⟩ ∧ b ∉ S ∧ ∀ j, j < N → w.cell? ⟨b, off + j, none⟩ = some (V j).val
  room : ∀ j, j < N → Room w e sz (V j) ∧ (V j).n ≤ 1000000
  dis : ∀ i j, i < N → j < N → i ≠ j → ∀ q ∈ (V i).bk, q ∉ (V j).bk
  inS : ∀ j, j < N → ∀ q ∈ (V j).bk, q ∈ S
section
variable {e : TypeId} {sz : Nat} {bo : Option Addr} {N : Nat} {V : Nat → SV} {S : List Nat} {mk tk : Nat → Nat → List Value} {w0 w w' : World}

def P1 (e : TypeId) (sz N : Nat) (V : Nat → SV) (S : List Nat) (mk : Nat → Nat → List Value) (w0 w : World) (i k : Nat) : Prop :=
  Ch S w0 w ∧ ∀ j, j < N → Has w e sz (V j) (rowOf (mk j) (if j < i then (V j).n else if j = i then k else 0))
theorem P1.start (h : LLs w0 e sz bo N V S) : P1 e sz N V S mk w0 w0 0 0 :=
  ⟨Ch.refl _ _, fun j hj => by
    have : (if j < 0 then (V j).n else if j = 0 then 0 else 0) = 0 := by rw [if_neg (by omega)]; split <;> rfl
    rw [this]; exact Has.start (h.room j hj).1⟩
theorem P1.next {i : Nat} (h : P1 e sz N V S mk w0 w i (V i).n) : P1 e sz N V S mk w0 w (i + 1) 0 :=
  ⟨h.1, fun j hj => by
    have := h.2 j hj
    have e1 : (if j < i + 1 then (V j).n else if j = i + 1 then 0 else 0) = (if j < i then (V j).n else if j = i then (V i).n else 0) := by
      by_cases c1 : j < i
      · rw [if_pos c1, if_pos (by omega)]
      · by_cases c2 : j = i
        · subst c2; rw [if_pos (by omega), if_neg c1, if_pos rfl]
        · rw [if_neg (by omega), if_neg c1, if_neg c2]; split <;> rfl
    rw [e1]; exact this⟩
theorem P1.one (hl : LLs w0 e 1 bo N V S) {i k : Nat} (h : P1 e 1 N V S mk w0 w i k) (hi : i < N) (hk : k < (V i).n) (u : Value) (hm : mk i k = [u]) (hml : ∀ i k, (mk i k).length = 1) :
    ∃ q off, (V i).ao = some ⟨q, off, none⟩ ∧ (∃ u, w.cell? ⟨q, off + k, none⟩ = some u) ∧ w.frozen? ⟨q, off + k, none⟩ = false ∧ P1 e 1 N V S mk w0 (w.setCell ⟨q, off + k, none⟩ u) i (k + 1) := by
  have hi' := h.2 i hi
  rw [if_neg (by omega), if_pos rfl] at hi'
  obtain ⟨q, off, g1, g2, g3, g4, g5⟩ := hi'.at1 k hk (by rw [rowOf_len (hml i)]; omega)
  refine ⟨q, off, g1, g3, g4, h.1.setCell _ _ (.inl (hl.inS i hi q g2)), fun j hj => ?_⟩
  by_cases e1 : j = i
  · subst e1
    rw [if_neg (by omega), if_pos rfl, rowOf_succ, hm]
    exact g5 u
  · have hj' := h.2 j hj
    rw [if_neg e1] at hj' ⊢
    exact hj'.keep (fun q' hq' o ho => (heap_set_ne (fun e2 => hl.dis i j hi hj (Ne.symm e1) q g2 (by rw [← e2]; exact hq'))).trans ho)
theorem P1.two (hl : LLs w0 e 2 bo N V S) {i k : Nat} (h : P1 e 2 N V S mk w0 w i k) (hi : i < N) (hk : k < (V i).n) (u u' : Value) (hm : mk i k = [u, u']) (hml : ∀ i k, (mk i k).length = 2) :
    ∃ q off, (V i).ao = some ⟨q, off, none⟩ ∧ (∃ u, w.cell? ⟨q, off + k * 2, none⟩ = some u) ∧ (∃ u, w.cell? ⟨q, off + k * 2 + 1, none⟩ = some u) ∧ w.frozen? ⟨q, off + k * 2, none⟩ = false ∧ w.frozen? ⟨q, off + k * 2 + 1, none⟩ = false ∧
      P1 e 2 N V S mk w0 ((w.setCell ⟨q, off + k * 2, none⟩ u).setCell ⟨q, off + k * 2 + 1, none⟩ u') i (k + 1) := by
  have hi' := h.2 i hi
  rw [if_neg (by omega), if_pos rfl] at hi'
  obtain ⟨q, off, g1, g2, g3, g3', g4, g4', g5⟩ := hi'.at2 k hk (by rw [rowOf_len (hml i)])
  refine ⟨q, off, g1, g3, g3', g4, g4', (h.1.setCell _ _ (.inl (hl.inS i hi q g2))).setCell _ _ (.inl (hl.inS i hi q g2)), fun j hj => ?_⟩
  by_cases e1 : j = i
  · subst e1
    rw [if_neg (by omega), if_pos rfl, rowOf_succ, hm]
    exact g5 u u'
  · have hj' := h.2 j hj
    rw [if_neg e1] at hj' ⊢
    have hne := fun q' (hq' : q' ∈ (V j).bk) (e2 : q' = q) => hl.dis i j hi hj (Ne.symm e1) q g2 (by rw [← e2]; exact hq')
    exact hj'.keep (fun q' hq' o ho => (heap_set_ne (hne q' hq')).trans ((heap_set_ne (hne q' hq')).trans ho))

/-- The second part: i lists have grown. -/
structure P2 (e : TypeId) (sz : Nat) (st : TypeId) (N : Nat) (V : Nat → SV) (S : List Nat) (mk tk : Nat → Nat → List Value) (w0 w : World) (i : Nat) (lv : Value) (lq : List Nat) (ls : List Value) (lb : Nat → List Nat) : Prop where
  ch : Ch S w0 w
  has : ∀ j, j < N → Has w e sz (V j) (rowOf (mk j) (V j).n)
  len : ls.length = i
  long : Row w st 1 lv lq i ls
  lqs : ∀ q ∈ lq, w0.heap.size ≤ q ∧ q < w.heap.size
  rows : ∀ j, j < i → Row w e sz (ls.getD j undef) (lb j) ((V j).n + 16) (rowOf (mk j) (V j).n ++ rowOf (tk j) 16)
  lbs : ∀ j, j < i → ∀ q ∈ lb j, q < w.heap.size ∧ (q ∈ (V j).bk ∨ w0.heap.size ≤ q) ∧ q ∉ lq
  dis : ∀ j j', j < i → j' < i → j ≠ j' → ∀ q ∈ lb j, q ∉ lb j'
/-- .. and the i-th one by k elements. -/
structure PX (e : TypeId) (sz : Nat) (V : Nat → SV) (mk tk : Nat → Nat → List Value) (w0 w : World) (i k : Nat) (lq : List Nat) (lb : Nat → List Nat) (xv : Value) (xb : List Nat) : Prop where
  row : Row w e sz xv xb ((V i).n + k) (rowOf (mk i) (V i).n ++ rowOf (tk i) k)
  how : (xv = .slice (V i).ao ((V i).n + k) (V i).cap ∧ xb = (V i).bk) ∨ ∃ q, xb = [q] ∧ w0.heap.size ≤ q ∧ q < w.heap.size ∧ (∀ j, j < i → q ∉ lb j) ∧ q ∉ lq
theorem P2.start {st : TypeId} (h : P1 e sz N V S mk w0 w N 0) : P2 e sz st N V S mk tk w0 w 0 (.slice none 0 0) [] [] (fun _ => []) :=
  ⟨h.1, fun j hj => by have := h.2 j hj; rw [if_pos hj] at this; exact this, rfl, Row.nil _ _ _ _, (fun q hq => by cases hq), (fun j hj => absurd hj (by omega)), (fun j hj => absurd hj (by omega)), (fun j j' hj => absurd hj (by omega))⟩
theorem PX.start {st : TypeId} {i : Nat} {lv : Value} {lq : List Nat} {ls : List Value} {lb : Nat → List Nat} (h : P2 e sz st N V S mk tk w0 w i lv lq ls lb) (hi : i < N) (hml : ∀ i k, (mk i k).length = sz) (hsz : 0 < sz) : PX e sz V mk tk w0 w i 0 lq lb (V i).val (V i).bk :=
  ⟨by rw [rowOf_zero, List.append_nil]; exact (h.has i hi).row (rowOf_len (hml i) _) hsz, .inl ⟨rfl, rfl⟩⟩

theorem Has.below {w w' : World} {e : TypeId} {sz : Nat} {v : SV} {xs : List Value} (h : Has w e sz v xs) {q off : Nat} {arr arr' : Array Value} (ha : v.ao = some ⟨q, off, none⟩) (hq : w.heap[q]? = some (.cells arr e (0, 0))) (hq' : w'.heap[q]? = some (.cells arr' e (0, 0))) (hs : arr'.size = arr.size) (hj : ∀ j, j < off + v.n * sz → arr'[j]? = arr[j]?) : Has w' e sz v xs := by
  obtain ⟨⟨h1, h2, h3, h4⟩, m, k1, k2, k3⟩ := h
  have hle : m * sz ≤ v.n * sz := Nat.mul_le_mul_right _ k2
  refine ⟨⟨h1, h2, h3, h4.imp id fun ⟨q1, off1, arr1, a1, a2, a3⟩ => ?_⟩, m, k1, k2, k3.imp id fun ⟨q1, off1, arr1, a1, a2, a3⟩ => ?_⟩
  · rw [ha] at a1
    simp only [Option.some.injEq, Addr.mk.injEq, and_true] at a1
    obtain ⟨rfl, rfl⟩ := a1
    rw [hq] at a2
    simp only [Option.some.injEq, Obj.cells.injEq, and_true] at a2
    obtain rfl := a2
    exact ⟨q, off, arr', ha, hq', by omega⟩
  · rw [ha] at a1
    simp only [Option.some.injEq, Addr.mk.injEq, and_true] at a1
    obtain ⟨rfl, rfl⟩ := a1
    rw [hq] at a2
    simp only [Option.some.injEq, Obj.cells.injEq, and_true] at a2
    obtain rfl := a2
    exact ⟨q, off, arr', ha, hq', fun j hj2 => (hj _ (by omega)).trans (a3 j hj2)⟩
/-- What an old state keeps where nothing of it is written. -/
theorem P2.keep {st : TypeId} {i : Nat} {lv : Value} {lq : List Nat} {ls : List Value} {lb : Nat → List Nat} (hl : LLs w0 e sz bo N V S) (h : P2 e sz st N V S mk tk w0 w i lv lq ls lb) (T : List Nat) (hc : Ch T w w') (hT : ∀ q ∈ T, q ∈ S ∨ w0.heap.size ≤ q)
    (hV : ∀ j, j < N → Has w' e sz (V j) (rowOf (mk j) (V j).n)) (hq : ∀ q ∈ lq, q ∉ T) (hb : ∀ j, j < i → ∀ q ∈ lb j, q ∉ T) : P2 e sz st N V S mk tk w0 w' i lv lq ls lb :=
  ⟨h.ch.trans hc hT, hV, h.len, h.long.ch hc hq, fun q hm => ⟨(h.lqs q hm).1, Nat.lt_of_lt_of_le (h.lqs q hm).2 hc.size⟩, fun j hj => (h.rows j hj).ch hc (hb j hj), fun j hj q hm => ⟨Nat.lt_of_lt_of_le (h.lbs j hj q hm).1 hc.size, (h.lbs j hj q hm).2⟩, h.dis⟩
theorem P2.same {st : TypeId} {i : Nat} {lv : Value} {lq : List Nat} {ls : List Value} {lb : Nat → List Nat} (hl : LLs w0 e sz bo N V S) (h : P2 e sz st N V S mk tk w0 w i lv lq ls lb) (hc : Ch [] w w') : P2 e sz st N V S mk tk w0 w' i lv lq ls lb :=
  h.keep hl [] hc (fun q hq => by cases hq) (fun j hj => (h.has j hj).keep (fun q _ o ho => hc.heap ho (by simp))) (fun q _ => by simp) (fun j _ q _ => by simp)
theorem PX.same {i k : Nat} {lq : List Nat} {lb : Nat → List Nat} {xv : Value} {xb : List Nat} (h : PX e sz V mk tk w0 w i k lq lb xv xb) (hc : Ch [] w w') : PX e sz V mk tk w0 w' i k lq lb xv xb :=
  ⟨h.row.ch hc (by simp), h.how.imp id fun ⟨q, h1, h2, h3, h4⟩ => ⟨q, h1, h2, Nat.lt_of_lt_of_le h3 hc.size, h4⟩⟩
/-- One more element behind the i-th list. -/
theorem P2.grow {st : TypeId} {i k : Nat} {lv : Value} {lq : List Nat} {ls : List Value} {lb : Nat → List Nat} {ax : Option Addr} {cx : Nat} {xb xb' : List Nat} {v' : Value} (hl : LLs w0 e sz bo N V S) (hi : i < N) (hml : ∀ i k, (mk i k).length = sz) (h : P2 e sz st N V S mk tk w0 w i lv lq ls lb) (hx : PX e sz V mk tk w0 w i k lq lb (.slice ax ((V i).n + k) cx) xb)
    (hr : Row w' e sz v' xb' ((V i).n + k + 1) (rowOf (mk i) (V i).n ++ rowOf (tk i) k ++ tk i k)) (hg : Grew w w' e sz ax ((V i).n + k) cx 1 v' xb xb') : P2 e sz st N V S mk tk w0 w' i lv lq ls lb ∧ PX e sz V mk tk w0 w' i (k + 1) lq lb v' xb' := by
  have hrow' : Row w' e sz v' xb' ((V i).n + (k + 1)) (rowOf (mk i) (V i).n ++ rowOf (tk i) (k + 1)) := by rw [rowOf_succ, ← List.append_assoc]; exact hr
  rcases hg with ⟨rfl, rfl, q, off, arr, arr', rfl, hq, g1, g2, g3, g4, g5⟩ | ⟨q', rfl, g1, g2, g3⟩
  · rcases hx.how with ⟨e1, e2⟩ | ⟨q1, e1, k1, k2, k3, k4⟩
    · -- it lies where it lay
      simp only [Value.slice.injEq] at e1
      obtain ⟨e3, _, e4⟩ := e1
      have hqb : q ∈ (V i).bk := e2 ▸ hq
      have hqs := (hl.room i hi).1.lt q hqb
      refine ⟨h.keep hl [q] g5 (fun x hx => by simp at hx; subst hx; exact .inl (hl.inS i hi _ hqb)) (fun j hj => ?_) (fun x hxm hm => ?_) (fun j hj x hxm hm => ?_), hrow', .inl ⟨by rw [e3, e4]; rfl, e2⟩⟩
      · by_cases ej : j = i
        · subst ej
          refine (h.has j hj).below e3.symm g1 g2 g3 (fun y hy => g4 y ?_)
          have : (V j).n * sz ≤ ((V j).n + k) * sz := Nat.mul_le_mul_right _ (by omega)
          omega
        · exact (h.has j hj).keep (fun x hx o ho => g5.heap ho (by simp; intro e5; exact hl.dis i j hi hj (Ne.symm ej) q hqb (e5 ▸ hx)))
      · simp at hm; subst hm; have := (h.lqs _ hxm).1; omega
      · simp at hm; subst hm
        rcases (h.lbs j hj _ hxm).2.1 with h1 | h1
        · exact hl.dis j i (by omega) hi (by omega) _ h1 hqb
        · omega
    · -- it lies in a block of its own
      rw [e1] at hq
      simp at hq
      subst hq
      refine ⟨h.keep hl [q] g5 (fun x hx => by simp at hx; subst hx; exact .inr k1) (fun j hj => (h.has j hj).keep (fun x hx o ho => g5.heap ho (by simp; intro e5; have := (hl.room j hj).1.lt x hx; omega))) (fun x hxm hm => ?_) (fun j hj x hxm hm => ?_), hrow', .inr ⟨q, e1, k1, Nat.lt_of_lt_of_le k2 g5.size, k3, k4⟩⟩
      · simp at hm; subst hm; exact k4 hxm
      · simp at hm; subst hm; exact k3 j hj hxm
  · have hw := h.ch.size
    refine ⟨h.same hl g3, hrow', .inr ⟨q', rfl, by omega, g2, fun j hj hm => ?_, fun hm => ?_⟩⟩
    · have := (h.lbs j hj q' hm).1; omega
    · have := (h.lqs q' hm).2; omega
/-- The i-th list is laid behind the others. -/
theorem P2.next {st : TypeId} {i : Nat} {lv lv' : Value} {lq lq' : List Nat} {ls : List Value} {lb : Nat → List Nat} {xv : Value} {xb : List Nat} (hl : LLs w0 e sz bo N V S) (hi : i < N) (h : P2 e sz st N V S mk tk w0 w i lv lq ls lb) (hx : PX e sz V mk tk w0 w i 16 lq lb xv xb)
    (hr : Row w' st 1 lv' lq' (i + 1) (ls ++ [xv])) (hc : Ch lq w w') (hn : News lq lq' w w') : ∃ lb', P2 e sz st N V S mk tk w0 w' (i + 1) lv' lq' (ls ++ [xv]) lb' := by
  have hxb : ∀ q ∈ xb, q ∉ lq ∧ q < w.heap.size ∧ (q ∈ (V i).bk ∨ w0.heap.size ≤ q) ∧ ∀ j, j < i → q ∉ lb j := by
    intro q hq
    rcases hx.how with ⟨_, e2⟩ | ⟨q1, e1, k1, k2, k3, k4⟩
    · have hb : q ∈ (V i).bk := e2 ▸ hq
      have hlt := (hl.room i hi).1.lt q hb
      have := h.ch.size
      refine ⟨fun hm => by have := (h.lqs q hm).1; omega, by omega, .inl hb, fun j hj hm => ?_⟩
      rcases (h.lbs j hj q hm).2.1 with h1 | h1
      · exact hl.dis j i (by omega) hi (by omega) q h1 hb
      · omega
    · rw [e1] at hq; simp at hq; subst hq
      exact ⟨k4, k2, .inr k1, k3⟩
  have hVq : ∀ j, j < N → ∀ q ∈ (V j).bk, q ∉ lq := fun j hj q hq hm => by have := (hl.room j hj).1.lt q hq; have := (h.lqs q hm).1; omega
  have hfresh : ∀ q ∈ lq', q ∈ lq ∨ (w.heap.size ≤ q ∧ q < w'.heap.size) := fun q hq => hn.mem hq
  have hsz := hc.size
  have hsz0 := h.ch.size
  refine ⟨fun j => if j = i then xb else lb j, h.ch.trans hc (fun q hq => .inr (h.lqs q hq).1), fun j hj => (h.has j hj).keep (fun q hq o ho => hc.heap ho (hVq j hj q hq)), by simp [h.len], hr, fun q hq => ?_, fun j hj => ?_, fun j hj q hq => ?_, fun j j' hj hj' hne q hq => ?_⟩
  · rcases hfresh q hq with h1 | h1
    · have := h.lqs q h1; omega
    · omega
  · by_cases ej : j = i
    · subst ej
      simp only [if_true]
      have : (ls ++ [xv]).getD j undef = xv := by simp [List.getD_eq_getElem?_getD, List.getElem?_append, h.len]
      rw [this]
      exact hx.row.ch hc (fun q hq => (hxb q hq).1)
    · simp only [if_neg ej]
      have : (ls ++ [xv]).getD j undef = ls.getD j undef := by rw [List.getD_eq_getElem?_getD, List.getElem?_append_left (by rw [h.len]; omega), ← List.getD_eq_getElem?_getD]
      rw [this]
      exact (h.rows j (by omega)).ch hc (fun q hq => (h.lbs j (by omega) q hq).2.2)
  · by_cases ej : j = i
    · subst ej
      simp only [if_true] at hq
      have := hxb q hq
      refine ⟨by omega, this.2.2.1, fun hm => ?_⟩
      rcases hfresh q hm with h1 | h1
      · exact this.1 h1
      · omega
    · simp only [if_neg ej] at hq
      have := h.lbs j (by omega) q hq
      refine ⟨by omega, this.2.1, fun hm => ?_⟩
      rcases hfresh q hm with h1 | h1
      · exact this.2.2 h1
      · omega
  · by_cases ej : j = i
    · subst ej
      simp only [if_true] at hq
      rw [if_neg (Ne.symm hne)]
      exact (hxb q hq).2.2.2 j' (by omega)
    · simp only [if_neg ej] at hq
      by_cases ej' : j' = i
      · subst ej'
        simp only [if_true]
        exact fun hm => (hxb q hm).2.2.2 j (by omega) hq
      · simp only [if_neg ej']
        exact h.dis j j' (by omega) (by omega) hne q hq
end
end Go.Proofs.YtlhhcocdhkbdnaaDoor.Own
