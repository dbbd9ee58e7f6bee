/-
  LISTS THAT ARE NOBODY ELSE's (for dappleref00.Book.Own): slices in blocks of their own, which are written over, grow, and are looked at (no program).
-/
import Derived.Test.YtlhhcocdhkbdnaaDoorHeap2
set_option linter.unusedVariables false
set_option linter.unusedSimpArgs false
namespace Go.Proofs.YtlhhcocdhkbdnaaDoor.Own
open Go.RowKit Go.Proofs.YtlhhcocdhkbdnaaDoor.Hp

/-- A slice value. -/
structure SV where
  ao : Option Addr
  n : Nat
  cap : Nat
def SV.val (v : SV) : Value := .slice v.ao v.n v.cap
def SV.nil : SV := ⟨none, 0, 0⟩
/-- The blocks in which it has room: none, or one. -/
def SV.bk (v : SV) : List Nat := if v.cap = 0 then [] else match v.ao with | some a => [a.block] | none => []

/-- It has room of its own, in a block that may be written. -/
def Room (w : World) (e : TypeId) (sz : Nat) (v : SV) : Prop := v.n ≤ v.cap ∧ v.cap ≤ maxLen ∧ (v.ao = none → v.cap = 0) ∧ (v.cap = 0 ∨ ∃ q off arr, v.ao = some ⟨q, off, none⟩ ∧ w.heap[q]? = some (.cells arr e (0, 0)) ∧ off + v.cap * sz ≤ arr.size)
theorem Room.keep {w w' : World} {e : TypeId} {sz : Nat} {v : SV} (h : Room w e sz v) (hb : ∀ q ∈ v.bk, ∀ o, w.heap[q]? = some o → w'.heap[q]? = some o) : Room w' e sz v := by
  obtain ⟨h1, h2, h3, h4⟩ := h
  refine ⟨h1, h2, h3, ?_⟩
  rcases h4 with h4 | ⟨q, off, arr, ha, hh, hs⟩
  · exact .inl h4
  · by_cases hc : v.cap = 0
    · exact .inl hc
    · exact .inr ⟨q, off, arr, ha, hb q (by simp [SV.bk, hc, ha]) _ hh, hs⟩
theorem Room.lt {w : World} {e : TypeId} {sz : Nat} {v : SV} (h : Room w e sz v) : ∀ q ∈ v.bk, q < w.heap.size := by
  intro q hq
  obtain ⟨h1, h2, h3, h4⟩ := h
  unfold SV.bk at hq
  by_cases hc : v.cap = 0
  · rw [if_pos hc] at hq; cases hq
  · obtain ⟨q', off, arr, ha, hh, hs⟩ := h4.resolve_left hc
    rw [if_neg hc, ha] at hq
    simp at hq
    subst hq
    exact lt_of hh
/-- .. and its first m elements read as xs. -/
def Has (w : World) (e : TypeId) (sz : Nat) (v : SV) (xs : List Value) : Prop := Room w e sz v ∧ ∃ m, xs.length = m * sz ∧ m ≤ v.n ∧ (m = 0 ∨ ∃ q off arr, v.ao = some ⟨q, off, none⟩ ∧ w.heap[q]? = some (.cells arr e (0, 0)) ∧ ∀ j, j < xs.length → arr[off + j]? = xs[j]?)
theorem Has.start {w : World} {e : TypeId} {sz : Nat} {v : SV} (h : Room w e sz v) : Has w e sz v [] := ⟨h, 0, by simp, by omega, .inl rfl⟩
theorem Has.keep {w w' : World} {e : TypeId} {sz : Nat} {v : SV} {xs : List Value} (h : Has w e sz v xs) (hb : ∀ q ∈ v.bk, ∀ o, w.heap[q]? = some o → w'.heap[q]? = some o) : Has w' e sz v xs := by
  obtain ⟨hr, m, h1, h2, h3⟩ := h
  refine ⟨hr.keep hb, m, h1, h2, ?_⟩
  rcases h3 with h3 | ⟨q, off, arr, ha, hh, hj⟩
  · exact .inl h3
  · by_cases hc : v.cap = 0
    · left; have := hr.1; omega
    · exact .inr ⟨q, off, arr, ha, hb q (by simp [SV.bk, hc, ha]) _ hh, hj⟩
/-- It is a row of the walk's own when all its elements are told. -/
theorem Has.row {w : World} {e : TypeId} {sz : Nat} {v : SV} {xs : List Value} (h : Has w e sz v xs) (hl : xs.length = v.n * sz) (hsz : 0 < sz) : Row w e sz v.val v.bk v.n xs := by
  obtain ⟨⟨h1, h2, h3, h4⟩, m, k1, k2, k3⟩ := h
  obtain rfl : m = v.n := Nat.eq_of_mul_eq_mul_right hsz (k1.symm.trans hl)
  refine ⟨hl, v.ao, v.cap, rfl, h1, h2, h3, ?_⟩
  by_cases hc : v.cap = 0
  · exact .inl hc
  · right
    obtain ⟨q, off, arr, ha, hh, hs⟩ := h4.resolve_left hc
    refine ⟨q, off, arr, by simp [SV.bk, hc, ha], ha, hh, hs, fun j hj => ?_⟩
    rcases k3 with k3 | ⟨q', off', arr', ha', hh', hj'⟩
    · rw [k3] at hj; simp at hj
    · rw [ha] at ha'
      simp only [Option.some.injEq, Addr.mk.injEq, and_true] at ha'
      obtain ⟨rfl, rfl⟩ := ha'
      rw [hh] at hh'
      simp only [Option.some.injEq, Obj.cells.injEq, and_true] at hh'
      obtain rfl := hh'
      exact hj' j (by rw [hl]; exact hj)

/-- One more element is laid. -/
theorem Has.put {w : World} {e : TypeId} {sz : Nat} {v : SV} {xs : List Value} (h : Has w e sz v xs) (k : Nat) (hk : k < v.n) (hx : xs.length = k * sz) (us : List Value) (hu : us.length = sz) : ∃ q off arr, v.ao = some ⟨q, off, none⟩ ∧ q ∈ v.bk ∧ w.heap[q]? = some (.cells arr e (0, 0)) ∧ off + k * sz + sz ≤ arr.size ∧
    ∀ w' arr', w'.heap[q]? = some (.cells arr' e (0, 0)) → arr'.size = arr.size → (∀ j, j < k * sz → arr'[off + j]? = arr[off + j]?) → (∀ t, t < sz → arr'[off + k * sz + t]? = us[t]?) → Has w' e sz v (xs ++ us) := by
  obtain ⟨⟨h1, h2, h3, h4⟩, m, k1, k2, k3⟩ := h
  have hc : v.cap ≠ 0 := by omega
  obtain ⟨q, off, arr, ha, hh, hs⟩ := h4.resolve_left hc
  have hle : (k + 1) * sz ≤ v.cap * sz := Nat.mul_le_mul_right _ (by omega)
  rw [Nat.add_mul, Nat.one_mul] at hle
  refine ⟨q, off, arr, ha, by simp [SV.bk, hc, ha], hh, by omega, fun w' arr' g1 g2 g3 g4 => ?_⟩
  refine ⟨⟨h1, h2, h3, .inr ⟨q, off, _, ha, g1, by omega⟩⟩, k + 1, by rw [List.length_append, hx, hu, Nat.add_mul, Nat.one_mul], by omega, .inr ⟨q, off, _, ha, g1, fun j hj => ?_⟩⟩
  rw [List.length_append, hx, hu] at hj
  by_cases e1 : j < k * sz
  · rw [g3 j e1, List.getElem?_append_left (by omega)]
    rcases k3 with k3 | ⟨q', off', arr', ha', hh2, hj'⟩
    · rw [k3] at k1; omega
    · rw [ha] at ha'
      simp only [Option.some.injEq, Addr.mk.injEq, and_true] at ha'
      obtain ⟨rfl, rfl⟩ := ha'
      rw [hh] at hh2
      simp only [Option.some.injEq, Obj.cells.injEq, and_true] at hh2
      obtain rfl := hh2
      exact hj' j (by omega)
  · rw [List.getElem?_append_right (by omega), hx, ← g4 (j - k * sz) (by omega), show off + k * sz + (j - k * sz) = off + j by omega]
theorem Has.at1 {w : World} {e : TypeId} {v : SV} {xs : List Value} (h : Has w e 1 v xs) (k : Nat) (hk : k < v.n) (hx : xs.length = k) : ∃ q off, v.ao = some ⟨q, off, none⟩ ∧ q ∈ v.bk ∧ (∃ u, w.cell? ⟨q, off + k, none⟩ = some u) ∧ w.frozen? ⟨q, off + k, none⟩ = false ∧
    ∀ u, Has (w.setCell ⟨q, off + k, none⟩ u) e 1 v (xs ++ [u]) := by
  obtain ⟨q, off, arr, ha, hq, hh, hs, H⟩ := h.put k hk (by omega) [.bool true] rfl
  refine ⟨q, off, ha, hq, ⟨arr[off + k]'(by omega), by rw [cell_at hh, Array.getElem?_eq_getElem (by omega)]⟩, free_at hh, fun u => ?_⟩
  obtain ⟨q', off', arr', ha', hq', hh', hs', H⟩ := h.put k hk (by omega) [u] rfl
  rw [ha] at ha'
  simp only [Option.some.injEq, Addr.mk.injEq, and_true] at ha'
  obtain ⟨rfl, rfl⟩ := ha'
  rw [hh] at hh'
  simp only [Option.some.injEq, Obj.cells.injEq, and_true] at hh'
  obtain rfl := hh'
  refine H _ _ (heap_set (i := off + k) hh u) (by simp) (fun j hj => Array.getElem?_setIfInBounds_ne (by omega)) (fun t ht => ?_)
  obtain rfl : t = 0 := by omega
  rw [Nat.mul_one, Nat.add_zero, Array.getElem?_setIfInBounds_self_of_lt (by omega)]; rfl
theorem Has.at2 {w : World} {e : TypeId} {v : SV} {xs : List Value} (h : Has w e 2 v xs) (k : Nat) (hk : k < v.n) (hx : xs.length = k * 2) : ∃ q off, v.ao = some ⟨q, off, none⟩ ∧ q ∈ v.bk ∧ (∃ u, w.cell? ⟨q, off + k * 2, none⟩ = some u) ∧ (∃ u, w.cell? ⟨q, off + k * 2 + 1, none⟩ = some u) ∧ w.frozen? ⟨q, off + k * 2, none⟩ = false ∧ w.frozen? ⟨q, off + k * 2 + 1, none⟩ = false ∧
    ∀ u u', Has ((w.setCell ⟨q, off + k * 2, none⟩ u).setCell ⟨q, off + k * 2 + 1, none⟩ u') e 2 v (xs ++ [u, u']) := by
  obtain ⟨q, off, arr, ha, hq, hh, hs, H⟩ := h.put k hk hx [.bool true, .bool true] rfl
  refine ⟨q, off, ha, hq, ⟨arr[off + k * 2]'(by omega), by rw [cell_at hh, Array.getElem?_eq_getElem (by omega)]⟩, ⟨arr[off + k * 2 + 1]'(by omega), by rw [cell_at hh, Array.getElem?_eq_getElem (by omega)]⟩, free_at hh, free_at hh, fun u u' => ?_⟩
  obtain ⟨q', off', arr', ha', hq', hh', hs', H⟩ := h.put k hk hx [u, u'] rfl
  rw [ha] at ha'
  simp only [Option.some.injEq, Addr.mk.injEq, and_true] at ha'
  obtain ⟨rfl, rfl⟩ := ha'
  rw [hh] at hh'
  simp only [Option.some.injEq, Obj.cells.injEq, and_true] at hh'
  obtain rfl := hh'
  refine H _ _ (heap_set (i := off + k * 2 + 1) (heap_set (i := off + k * 2) hh u) u') (by simp) (fun j hj => by rw [Array.getElem?_setIfInBounds_ne (by omega), Array.getElem?_setIfInBounds_ne (by omega)]) (fun t ht => ?_)
  have : t = 0 ∨ t = 1 := by omega
  rcases this with rfl | rfl
  · show ((arr.setIfInBounds (off + k * 2) u).setIfInBounds (off + k * 2 + 1) u')[off + k * 2]? = some u
    rw [Array.getElem?_setIfInBounds_ne (by omega), Array.getElem?_setIfInBounds_self_of_lt (by omega)]
  · rw [Array.getElem?_setIfInBounds_self_of_lt (by simp; omega)]; rfl
/-- Reading what is told. -/
theorem Has.read {w : World} {e : TypeId} {sz : Nat} {v : SV} {xs : List Value} (h : Has w e sz v xs) (hp : 0 < xs.length) : ∃ q off, v.ao = some ⟨q, off, none⟩ ∧ ∀ j, j < xs.length → w.cell? ⟨q, off + j, none⟩ = xs[j]? := by
  obtain ⟨_, m, k1, k2, k3⟩ := h
  rcases k3 with k3 | ⟨q, off, arr, ha, hh, hj⟩
  · rw [k3] at k1; omega
  · exact ⟨q, off, ha, fun j hj2 => (cell_at hh).trans (hj j hj2)⟩

/-- What an append has done: it found room behind, or a new block was made. -/
def Grew (w w' : World) (e : TypeId) (sz : Nat) (ao : Option Addr) (n cap m : Nat) (v' : Value) (qs qs' : List Nat) : Prop :=
  (v' = .slice ao (n + m) cap ∧ qs' = qs ∧ ∃ q off arr arr', ao = some ⟨q, off, none⟩ ∧ q ∈ qs ∧ w.heap[q]? = some (.cells arr e (0, 0)) ∧ w'.heap[q]? = some (.cells arr' e (0, 0)) ∧ arr'.size = arr.size ∧ (∀ j, j < off + n * sz → arr'[j]? = arr[j]?) ∧ Ch [q] w w') ∨
  (∃ q', qs' = [q'] ∧ w.heap.size ≤ q' ∧ q' < w'.heap.size ∧ Ch [] w w')

theorem run_append_grew {P : Program} (w : World) (t ty e : TypeId) (i : TypeInfo) (z : Value) (size bytes : Nat) (ht : P.underlying t = some (.slice e)) (hi : P.info? e = some i) (hz : i.zero = some z)
    (hsize : i.size = size) (hby : i.bytes = bytes) (hzs : z.cells.size = size) (hsz : 0 < size)
    {ao : Option Addr} {n cap : Nat} {qs : List Nat} {xs : List Value} (hrow : Row w e size (.slice ao n cap) qs n xs)
    (ad : Addr) (m c : Nat) (news : List Value) (hl : news.length = m * size) (hnews : ∀ j u, news[j]? = some u → w.cell? (ad.add j) = some u) (h1 : ∀ u ∈ news, u.oneCell' = true) (hm : 0 < m)
    (h63 : n + m ≤ maxLen) (hbytes : (n + m) * bytes ≤ 140737488355328) :
    ∃ v' w' qs', (Builtin.append_ #[t, t] ty #[.slice ao n cap, .slice (some ad) m c]).run P w = .ok v' w' ∧ Row w' e size v' qs' (n + m) (xs ++ news) ∧ Grew w w' e size ao n cap m v' qs qs' := by
  subst hsize
  obtain ⟨hlx, ao', cap', hv, hnc, hcm, hnil, hr⟩ := hrow
  simp only [Value.slice.injEq, true_and] at hv
  obtain ⟨rfl, rfl⟩ := hv
  have hlen : (xs ++ news).length = (n + m) * i.size := by rw [List.length_append, hlx, hl, Nat.add_mul]
  by_cases hroom : n + m ≤ cap
  · have hcap : cap ≠ 0 := by omega
    obtain ⟨q, off, arr, hq, rfl, hh, hfit, hj⟩ := hr.resolve_left hcap
    have hle : (n + m) * i.size ≤ cap * i.size := Nat.mul_le_mul_right _ hroom
    have hmul : (n + m) * i.size = n * i.size + m * i.size := Nat.add_mul _ _ _
    obtain ⟨arr', g1, g2, g3, g4, g5⟩ := heap_setCells q news (off + n * i.size) w arr e (0, 0) hh (by rw [hl]; omega)
    have hrun := run_append_room_cells (P := P) w t ty e i ht hi q off n cap ad m c news hl hnews h1 hroom
      (fun j hj => by rw [cell_at hh, Array.getElem?_eq_getElem (by omega)]; rfl) (fun j _ => free_at hh)
    refine ⟨_, _, qs, hrun, ⟨hlen, _, cap, rfl, hroom, hcm, (by intro h; cases h), .inr ⟨q, off, arr', hq, rfl, g1, by omega, fun j hj2 => ?_⟩⟩, .inl ⟨rfl, rfl, q, off, arr, arr', rfl, hq, hh, g1, g2, g3, g5⟩⟩
    by_cases hlt : j < n * i.size
    · rw [g3 _ (by omega), hj j hlt, List.getElem?_append_left (by omega)]
    · rw [List.getElem?_append_right (by omega), hlx]
      have := g4 (j - n * i.size) (by omega)
      rwa [show off + n * i.size + (j - n * i.size) = off + j by omega] at this
  · have fin : ∀ (v' : Value) (w' : World), w'.ownsRow w.heap.size e i.size v' (n + m) (xs ++ news) → w.grownBy w' none → (Builtin.append_ #[t, t] ty #[.slice ao n cap, .slice (some ad) m c]).run P w = .ok v' w' →
        ∃ v' w' qs', (Builtin.append_ #[t, t] ty #[.slice ao n cap, .slice (some ad) m c]).run P w = .ok v' w' ∧ Row w' e i.size v' qs' (n + m) (xs ++ news) ∧ Grew w w' e i.size ao n cap m v' qs qs' := by
      intro v' w' ho hg hrun
      rcases Row.of_owns ho with ⟨_, h0, _⟩ | ⟨q', hr', hq'⟩
      · omega
      · exact ⟨v', w', [q'], hrun, hr', .inr ⟨q', rfl, hq'.1, hq'.2, (Ch.of_grown hg).mono (fun x hx => by simp at hx)⟩⟩
    cases ao with
    | some b =>
      obtain ⟨v', w', hrun, r1, r2⟩ := run_append_arg_grows (P := P) w t ty e i z i.size bytes ht hi hz rfl hby hzs hsz b n cap xs hlx (fun j u hj2 => by
        rcases hr with h0 | ⟨q, off, arr, hq, ha, hh, hfit, hj⟩
        · obtain rfl : n = 0 := by omega
          have : xs = [] := List.eq_nil_of_length_eq_zero (by simpa using hlx)
          subst this; simp at hj2
        · cases ha
          have hjl : j < n * i.size := by rw [← hlx]; rcases Nat.lt_or_ge j xs.length with h | h; exact h; simp [List.getElem?_eq_none h] at hj2
          rw [Addr.add_lit, cell_at hh, hj j hjl]; exact hj2) ad m c news hl hnews (by omega) h63 hbytes
      exact fin v' w' r1 r2 hrun
    | none =>
      obtain rfl := hnil rfl
      obtain rfl : n = 0 := by omega
      obtain rfl : xs = [] := List.eq_nil_of_length_eq_zero (by simpa using hlx)
      obtain ⟨v', w', hrun, r1, r2, _⟩ := run_append_own (P := P) w w.heap.size t ty e i z i.size bytes ht hi hz rfl hby hzs hsz (.slice none 0 0) 0 [] (World.ownsRow_nil w _ e i.size) ad m c news hl hnews h1 h63 hbytes (Nat.le_refl _)
      exact fin v' w' r1 r2 hrun
theorem wpList_append_grew {P : Program} (w : World) {ops : Array Oper} {rest : List Oper} {o : Oper} {a : Act} {Q : Exit → Act → World → Prop}
    (hg : o.guard = none) (s x : Operand) (t : TypeId) (hop : o.op = Op.call { callee := Callee.builtin Builtin.append, args := #[s, x], argTypes := #[t, t] })
    (e : TypeId) (i : TypeInfo) (z : Value) (size bytes : Nat) (h1 : P.underlying t = some (.slice e)) (h2 : P.info? e = some i) (h3 : i.zero = some z) (h4 : i.size = size) (h5 : i.bytes = bytes) (h6 : z.cells.size = size) (h7 : 0 < size)
    {ao : Option Addr} {n cap : Nat} {qs : List Nat} {xs : List Value} (hs : a.eval s = .slice ao n cap) (hrow : Row w e size (.slice ao n cap) qs n xs)
    (ad : Addr) (m c : Nat) (news : List Value) (hx : a.eval x = .slice (some ad) m c) (hn : news.length = m * size) (hc : ∀ j u, news[j]? = some u → w.cell? (ad.add j) = some u) (h1c : ∀ u ∈ news, u.oneCell' = true) (hm : 0 < m)
    (b1 : n + m ≤ maxLen) (b2 : (n + m) * bytes ≤ 140737488355328)
    (hK : ∀ v' w' qs', Row w' e size v' qs' (n + m) (xs ++ news) → Grew w w' e size ao n cap m v' qs qs' → wpList P ops Q rest (a.put o.dst v') w') :
    wpList P ops Q (o :: rest) a w := by
  refine wpList_plain hg fun K hK' => ?_
  obtain ⟨v', w', q', hrun, r1, r2⟩ := run_append_grew (P := P) w t o.type e i z size bytes h1 h2 h3 h4 h5 h6 h7 hrow ad m c news hn hc h1c hm b1 b2
  unfold Oper.wp
  simp [execOp, hop, resolve, invoke, builtin, hs, hx, hrun, Result.andThen]
  exact hK' _ _ (hK v' w' q' r1 r2)
end Go.Proofs.YtlhhcocdhkbdnaaDoor.Own
