/-
  THE WALKS of package alloc: each call comes to the machine of AllocPure; memory beside the allocator's own three blocks stays.
-/
import Derived.Test.YtdncodandmjknaaProg
import Derived.Test.YtdncodandmjknaaHeap
import Derived.Test.YtdncodandmjknaaSame
import Derived.Test.YtdncodandmjknaaAllocPure
import Derived.Deep.OwnRows
import Derived.KernelRfl
set_option linter.unusedVariables false
set_option linter.unusedSimpArgs false
namespace Go.Proofs.Ytdncodandmjknaa.Al
open Go.RowKit Go.Proofs.Ytdncodandmjknaa.Hp Go.Proofs.Ytdncodandmjknaa.Sm Go.Proofs.Ytdncodandmjknaa.Ap

/-- Waiters as they lie in memory. -/
def wcells (l : List (Int × Int)) : List Value := l.flatMap (fun x => [Value.int .i64 x.1, Value.int .i64 x.2])

/-- The allocator's own block p and its cells' block c; qv: the value of its queue. -/
structure Hd (w : World) (p c : Nat) (cs gs : List Int) (qv : Value) : Prop where
  blk : ∃ arr, w.heap[p]? = some (.cells arr 76 (0, 0)) ∧ arr.size = 11 ∧ arr[0]? = some (.slice (some ⟨c, 0, none⟩) cs.length cs.length) ∧
    (∀ i, i < 9 → arr[1 + i]? = some (.int .i64 (gs.getD i 0))) ∧ arr[10]? = some qv
  cel : w.heap[c]? = some (.cells (ints .i64 cs).toArray 3 (0, 0))
  ne : p ≠ c
theorem Hd.ch {w w' : World} {p c : Nat} {cs gs : List Int} {qv : Value} {S : List Nat} (h : Hd w p c cs gs qv) (hc : Ch S w w') (hp : p ∉ S) (hcc : c ∉ S) : Hd w' p c cs gs qv := by
  obtain ⟨⟨arr, h1, h2, h3, h4, h5⟩, hcel, hne⟩ := h
  exact ⟨⟨arr, hc.heap h1 hp, h2, h3, h4, h5⟩, hc.heap hcel hcc, hne⟩
theorem Hd.setG {w : World} {p c : Nat} {cs gs : List Int} {qv : Value} (h : Hd w p c cs gs qv) (t : Nat) (v : Int) (ht : t < 9) (hgl : gs.length = 9) : Hd (w.setCell ⟨p, 1 + t, none⟩ (.int .i64 v)) p c cs (gs.set t v) qv := by
  obtain ⟨⟨arr, h1, h2, h3, h4, h5⟩, hcel, hne⟩ := h
  refine ⟨⟨_, heap_set h1 _, by simpa using h2, ?_, fun i hi => ?_, ?_⟩, (heap_set_ne (fun e => hne e.symm)).trans hcel, hne⟩
  · rw [Array.getElem?_setIfInBounds_ne (by omega)]; exact h3
  · by_cases e : i = t
    · subst e
      rw [Array.getElem?_setIfInBounds_self_of_lt (by omega)]
      simp [List.getD, List.getElem?_set, show i < gs.length by omega]
    · rw [Array.getElem?_setIfInBounds_ne (by omega), h4 i hi]
      simp [List.getD, List.getElem?_set, Ne.symm e]
  · rw [Array.getElem?_setIfInBounds_ne (by omega)]; exact h5
theorem Hd.setC {w : World} {p c : Nat} {cs gs : List Int} {qv : Value} (h : Hd w p c cs gs qv) (i : Nat) (v : Int) : Hd (w.setCell ⟨c, i, none⟩ (.int .i64 v)) p c (cs.set i v) gs qv := by
  obtain ⟨⟨arr, h1, h2, h3, h4, h5⟩, hcel, hne⟩ := h
  refine ⟨⟨arr, (heap_set_ne hne).trans h1, h2, by simpa using h3, h4, h5⟩, ?_, hne⟩
  rw [heap_set hcel]
  congr 2
  apply Array.ext'
  simp [ints]
theorem Hd.setQ {w : World} {p c : Nat} {cs gs : List Int} {qv : Value} (h : Hd w p c cs gs qv) (v : Value) : Hd (w.setCell ⟨p, 10, none⟩ v) p c cs gs v := by
  obtain ⟨⟨arr, h1, h2, h3, h4, h5⟩, hcel, hne⟩ := h
  refine ⟨⟨_, heap_set h1 _, by simpa using h2, ?_, fun i hi => ?_, ?_⟩, (heap_set_ne (fun e => hne e.symm)).trans hcel, hne⟩
  · rw [Array.getElem?_setIfInBounds_ne (by omega)]; exact h3
  · rw [Array.getElem?_setIfInBounds_ne (by omega)]; exact h4 i hi
  · rw [Array.getElem?_setIfInBounds_self_of_lt (by omega)]

/-- The allocator at block p: its cells in block c, who waits in a block of qs. -/
structure Is (w : World) (p c : Nat) (qs : List Nat) (s : St) : Prop where
  hd : ∃ qv, Hd w p c s.cs s.gs qv ∧ Row w 101 2 qv qs s.q.length (wcells s.q)
  qne : ∀ q ∈ qs, q ≠ p ∧ q ≠ c ∧ q < w.heap.size
  ok : Ok s
theorem Is.ne {w : World} {p c : Nat} {qs : List Nat} {s : St} (h : Is w p c qs s) : p ≠ c := by obtain ⟨qv, hd, _⟩ := h.hd; exact hd.ne
theorem Is.lt {w : World} {p c : Nat} {qs : List Nat} {s : St} (h : Is w p c qs s) : p < w.heap.size ∧ c < w.heap.size := by
  obtain ⟨qv, ⟨⟨arr, h1, _⟩, h2, _⟩, _⟩ := h.hd
  exact ⟨lt_of h1, lt_of h2⟩

theorem Is.ch {w w' : World} {p c : Nat} {qs : List Nat} {s : St} {S : List Nat} (h : Is w p c qs s) (hc : Ch S w w') (hp : p ∉ S) (hcc : c ∉ S) (hq : ∀ q ∈ qs, q ∉ S) : Is w' p c qs s := by
  obtain ⟨⟨qv, hd, hr⟩, hqne, hok⟩ := h
  exact ⟨⟨qv, hd.ch hc hp hcc, hr.ch hc hq⟩, fun q hm => ⟨(hqne q hm).1, (hqne q hm).2.1, Nat.lt_of_lt_of_le (hqne q hm).2.2 hc.size⟩, hok⟩

theorem info3 : (Try.prog.info? 3).map (fun i => (i.zero, i.size, i.bytes)) = some (some (.int .i64 0), 1, 8) := by kernel_rfl

theorem New_bad (w : World) (n : Int) (h : n < 4 ∨ 4096 < n) :
    Calls Try.prog 7 #[.int .i64 n] w fun e w' => e = .returned (.tuple #[.pointer none, .int .i64 120]) ∧ w = w' := by
  rcases h with h | h
  · go_enter Try.func7, Try.ntmps7
    go_wp2_with fail
    go_ret2
    exact ⟨rfl, rfl⟩
  · go_enter Try.func7, Try.ntmps7
    go_wp2_with fail
    go_ret2
    exact ⟨rfl, rfl⟩

def new (n : Nat) : St := { cs := List.replicate n 0, gs := List.replicate 9 0, q := [] }
theorem new_ok (n : Nat) (h4 : 4 ≤ n) (h4096 : n ≤ 4096) : Ok (new n) := by
  refine ⟨by simp [new]; omega, by simp [new], by simp [new], by simp [new], by simp [new], by simp [new], ?_⟩
  intro x hx
  simp [new] at hx
  subst hx; simp
theorem made_ints (n : Nat) : madeCells #[Value.int .i64 0] n = (ints .i64 (List.replicate n 0)).toArray := by
  apply Array.ext
  · simp [madeCells, ints]
  · intro i h1 h2
    simp [madeCells, ints, Nat.mod_one]
theorem New_any (w : World) (n : Nat) (h4 : 4 ≤ n) (h4096 : n ≤ 4096) :
    Calls Try.prog 7 #[.int .i64 n] w fun e w' => ∃ p c, e = .returned (.tuple #[.pointer (some ⟨p, 0, none⟩), .int .i64 0]) ∧ Is w' p c [] (new n) ∧ Ch [] w w' ∧ w.heap.size ≤ p ∧ w.heap.size ≤ c ∧ p < w'.heap.size ∧ c < w'.heap.size := by
  have hmk := run_make_row' (P := Try.prog) 65 3 (.int .i64 0) 8 Try.underlying65 info3 rfl .i64 .i64 n (by omega) (by omega)
  go_enter Try.func7, Try.ntmps7
  go_wp2_with fail
  go_ret2
  have hb : ((w.alloc (Obj.cells (madeCells #[Value.int .i64 0] n) 3)).alloc (Obj.cells #[.slice (some ⟨w.heap.size, 0, none⟩) n n, .int .i64 0, .int .i64 0, .int .i64 0, .int .i64 0, .int .i64 0, .int .i64 0, .int .i64 0, .int .i64 0, .int .i64 0, .slice none 0 0] 76)).heap[w.heap.size + 1]? =
      some (Obj.cells #[.slice (some ⟨w.heap.size, 0, none⟩) n n, .int .i64 0, .int .i64 0, .int .i64 0, .int .i64 0, .int .i64 0, .int .i64 0, .int .i64 0, .int .i64 0, .int .i64 0, .slice none 0 0] 76) := by
    have := heap_new (w.alloc (Obj.cells (madeCells #[Value.int .i64 0] n) 3)) (Obj.cells #[.slice (some ⟨w.heap.size, 0, none⟩) n n, .int .i64 0, .int .i64 0, .int .i64 0, .int .i64 0, .int .i64 0, .int .i64 0, .int .i64 0, .int .i64 0, .int .i64 0, .slice none 0 0] 76)
    rw [World.size_alloc] at this
    exact this
  have hg : ∀ i, i < 9 → (#[.slice (some ⟨w.heap.size, 0, none⟩) n n, .int .i64 0, .int .i64 0, .int .i64 0, .int .i64 0, .int .i64 0, .int .i64 0, .int .i64 0, .int .i64 0, .int .i64 0, .slice none 0 0] : Array Value)[1 + i]? = some (.int .i64 ((new n).gs.getD i 0)) := by
    intro i hi
    match i, hi with
    | 0, _ | 1, _ | 2, _ | 3, _ | 4, _ | 5, _ | 6, _ | 7, _ | 8, _ => rfl
  have hc : ((w.alloc (Obj.cells (madeCells #[Value.int .i64 0] n) 3)).alloc (Obj.cells #[.slice (some ⟨w.heap.size, 0, none⟩) n n, .int .i64 0, .int .i64 0, .int .i64 0, .int .i64 0, .int .i64 0, .int .i64 0, .int .i64 0, .int .i64 0, .int .i64 0, .slice none 0 0] 76)).heap[w.heap.size]? = some (.cells (ints .i64 (new n).cs).toArray 3 (0, 0)) := by
    have e : madeCells #[Value.int .i64 0] n = (ints .i64 (new n).cs).toArray := made_ints n
    rw [← e]
    exact heap_old (heap_new w _)
  have hl : (new n).cs.length = n := by simp [new]
  exact ⟨w.heap.size + 1, w.heap.size, rfl, ⟨⟨.slice none 0 0, ⟨⟨_, hb, rfl, by rw [hl]; rfl, hg, rfl⟩, hc, by omega⟩, Row.nil _ _ _ _⟩, (fun q hq => by cases hq), new_ok n h4 h4096⟩, ((Ch.refl _ _).alloc _).alloc _, by omega, by omega, by simp, by simp; omega⟩
set_option maxHeartbeats 400000 in
theorem Index_any (w : World) (ao : Option Addr) (n cn : Nat) (xs : List Int) (v : Int) (hn : n ≤ cn) (hcn : cn ≤ maxLen) (hx : Rd w ao n (ints .i64 xs)) :
    Calls Try.prog 49 #[.slice ao n cn, .int .i64 v] w fun e w' => e = .returned (.int .i64 (idx v xs)) ∧ w' = w := by
  obtain ⟨hxl, hx⟩ := rd_ints hx
  unfold maxLen at hcn
  have hcell : ∃ b off, (0 < n → ao = some ⟨b, off, none⟩) ∧ ∀ j, j < n → w.cell? ⟨b, off + j, none⟩ = some (.int .i64 (xs.getD j 0)) := by
    rcases hx with rfl | ⟨b, off, ha, hx⟩
    · exact ⟨0, 0, fun h => absurd h (by omega), fun j hj => absurd hj (by omega)⟩
    · exact ⟨b, off, fun _ => ha, hx⟩
  clear hx
  obtain ⟨b, off, hao, hcell⟩ := hcell
  have HA := Lib.hid hao
  have HC := Lib.hid hcell
  have HX := Lib.hid hxl
  clear hao hcell hxl
  go_enter Try.func49, Try.ntmps49
  go_wp2_with fail
  go_loop [8] (fun i => ∃ k : Nat, k ≤ n ∧ i = .int .i64 k ∧ (∀ j, j < k → xs.getD j 0 ≠ v)) (fun i => n - (intOf i).toNat)
  case atStart => exact ⟨0, by omega, rfl, fun j hj => absurd hj (by omega)⟩
  case round =>
    obtain ⟨k, hk, rfl, hag⟩ := hrel
    have HG := Lib.hid hag
    clear hag
    by_cases hlt : k < n
    · obtain rfl := HA.out (by omega)
      have c1 := HC.out k hlt
      generalize hu : xs.getD k 0 = u at *
      have HU := Lib.hid hu
      clear hu
      by_cases huv : v = u
      · have huv' : (v == u) = true := by simpa using huv
        have HUV := Lib.hid huv
        clear huv
        go_wp2_with fail
        go_ret
        refine ⟨?_, rfl⟩
        rw [idx_at HG.out (by rw [HX.out]; exact hlt) (by rw [HU.out, HUV.out])]
        rfl
      · have huv' : (v == u) = false := by simpa using huv
        have HUV := Lib.hid huv
        clear huv
        go_wp2_with fail
        go_round
        case rel => exact ⟨k + 1, by omega, by go_num, fun j hj => by
          rcases Nat.lt_or_ge j k with h | h
          · exact HG.out j h
          · obtain rfl : j = k := by omega
            rw [HU.out]; exact fun e => HUV.out e.symm⟩
        case measure => simp [intOf]; omega
    · obtain rfl : k = n := by omega
      go_wp2_with fail
      go_ret
      refine ⟨?_, rfl⟩
      rw [idx_none (fun j hj => HG.out j (by have := HX.out; omega))]
      rfl

theorem wcells_get {l : List (Int × Int)} {j : Nat} (h : j < l.length) : (wcells l)[j * 2]? = some (.int .i64 (l.getD j (0, 0)).1) ∧ (wcells l)[j * 2 + 1]? = some (.int .i64 (l.getD j (0, 0)).2) := by
  induction l generalizing j with
  | nil => simp at h
  | cons x l ih =>
    cases j with
    | zero => exact ⟨rfl, rfl⟩
    | succ j =>
      have := ih (j := j) (by simpa using h)
      have e1 : (j + 1) * 2 = j * 2 + 1 + 1 := by omega
      rw [e1]
      exact ⟨by simpa [wcells] using this.1, by simpa [wcells] using this.2⟩
theorem wcells_length (l : List (Int × Int)) : (wcells l).length = l.length * 2 := by
  induction l with
  | nil => rfl
  | cons x l ih => simp [wcells] at ih ⊢; omega
/-- A queue that is read: its waiters' cells. -/
theorem rd_wait {w : World} {ao : Option Addr} {l : List (Int × Int)} {n : Nat} (h : Rd w ao (n * 2) (wcells l)) : l.length = n ∧ ∃ b off, (0 < n → ao = some ⟨b, off, none⟩) ∧
    ∀ j, j < n → w.cell? ⟨b, off + j * 2, none⟩ = some (.int .i64 (l.getD j (0, 0)).1) ∧ w.cell? ⟨b, off + j * 2 + 1, none⟩ = some (.int .i64 (l.getD j (0, 0)).2) := by
  obtain ⟨h1, h2⟩ := h
  have hl : l.length = n := by rw [wcells_length] at h1; omega
  refine ⟨hl, ?_⟩
  rcases h2 with h2 | ⟨b, off, ha, hc⟩
  · exact ⟨0, 0, fun h => by omega, fun j hj => by omega⟩
  · refine ⟨b, off, fun _ => ha, fun j hj => ?_⟩
    have g := wcells_get (l := l) (j := j) (by omega)
    exact ⟨(hc (j * 2) (by omega)).trans g.1, by rw [show off + j * 2 + 1 = off + (j * 2 + 1) by omega]; exact (hc (j * 2 + 1) (by omega)).trans g.2⟩

theorem closure_any (w : World) (t x y : Int) (bt : Nat) (ht : w.cell? ⟨bt, 0, none⟩ = some (.int .i64 t)) :
    Calls Try.prog 53 #[.agg #[.int .i64 x, .int .i64 y], .pointer (some ⟨bt, 0, none⟩)] w fun e w' => e = .returned (.bool (x == t)) ∧ Ch [] w w' := by
  have hlt := World.block_lt_of_cell? w _ ht
  have hlt' : bt < w.heap.size := hlt
  clear hlt
  go_enter Try.func53, Try.ntmps53
  go_wp2_with fail
  go_ret
  exact ⟨rfl, (Ch.refl _ _).alloc _⟩
set_option maxHeartbeats 400000 in
theorem IndexFunc_any (w : World) (ao : Option Addr) (n cn : Nat) (l : List (Int × Int)) (t : Int) (bt : Nat) (hn : n ≤ cn) (hcn : cn ≤ maxLen) (hx : Rd w ao (n * 2) (wcells l)) (ht : w.cell? ⟨bt, 0, none⟩ = some (.int .i64 t)) :
    Calls Try.prog 54 #[.slice ao n cn, .func (.func 53) #[] #[.pointer (some ⟨bt, 0, none⟩)]] w fun e w' => (∃ i : Int, e = .returned (.int .i64 i) ∧ decide (0 ≤ i) = l.any (fun x => x.1 == t)) ∧ Ch [] w w' := by
  obtain ⟨hxl, b, off, hao, hcell⟩ := rd_wait hx
  clear hx
  unfold maxLen at hcn
  have HA := Lib.hid hao
  have HC := Lib.hid hcell
  have HX := Lib.hid hxl
  have HT := Lib.hid ht
  clear hao hcell hxl ht
  go_enter Try.func54, Try.ntmps54
  go_wp2_with fail
  go_loopw [8] (fun i wr => ∃ k : Nat, k ≤ n ∧ i = .int .i64 k ∧ (∀ j, j < k → (l.getD j (0, 0)).1 ≠ t) ∧ Ch [] w wr) (fun i _ => n - (intOf i).toNat)
  case atStart => exact ⟨0, by omega, rfl, (fun j hj => absurd hj (by omega)), Ch.refl _ _⟩
  case round =>
    obtain ⟨k, hk, rfl, hag, hch⟩ := hrel
    have HG := Lib.hid hag
    have HH := Lib.hid hch
    clear hag
    by_cases hlt : k < n
    · obtain rfl := HA.out (by omega)
      obtain ⟨c1, c2⟩ := HC.out k hlt
      have d1 := hch.cell c1 (by simp)
      have d2 := hch.cell c2 (by simp)
      have dt := hch.cell HT.out (by simp)
      clear c1 c2 hch
      generalize hu : (l.getD k (0, 0)).1 = u at *
      generalize (l.getD k (0, 0)).2 = u2 at *
      have HU := Lib.hid hu
      clear hu
      have CL := closure_any _ t u u2 bt dt
      clear dt
      by_cases huv : u = t
      · have huv' : (u == t) = true := by simpa using huv
        rw [huv'] at CL
        have HUV := Lib.hid huv
        clear huv huv'
        go_wp2_with (go_at_call 53; refine CL.mono ?_; rintro e w2 ⟨rfl, hw2⟩)
        go_ret
        refine ⟨⟨_, rfl, ?_⟩, HH.out.trans' hw2⟩
        rw [any_at (k := k) (by rw [HX.out]; exact hlt) (by rw [HU.out, HUV.out])]
        simp
      · have huv' : (u == t) = false := by simpa using huv
        rw [huv'] at CL
        have HUV := Lib.hid huv
        clear huv huv'
        go_wp2_with (go_at_call 53; refine CL.mono ?_; rintro e w2 ⟨rfl, hw2⟩)
        go_roundw
        case rel => exact ⟨k + 1, by omega, by go_num, (fun j hj => by
          rcases Nat.lt_or_ge j k with h | h
          · exact HG.out j h
          · obtain rfl : j = k := by omega
            rw [HU.out]; exact HUV.out), HH.out.trans' hw2⟩
        case measure => simp [intOf]; omega
    · obtain rfl : k = n := by omega
      go_wp2_with fail
      go_ret
      refine ⟨⟨_, rfl, ?_⟩, HH.out⟩
      rw [any_none (fun j hj => HG.out j (by have := HX.out; omega))]
      simp
theorem ContainsFunc_any (w : World) (ao : Option Addr) (n cn : Nat) (l : List (Int × Int)) (t : Int) (bt : Nat) (hn : n ≤ cn) (hcn : cn ≤ maxLen) (hx : Rd w ao (n * 2) (wcells l)) (ht : w.cell? ⟨bt, 0, none⟩ = some (.int .i64 t)) :
    Calls Try.prog 52 #[.slice ao n cn, .func (.func 53) #[] #[.pointer (some ⟨bt, 0, none⟩)]] w fun e w' => e = .returned (.bool (l.any (fun x => x.1 == t))) ∧ Ch [] w w' := by
  have H := IndexFunc_any w ao n cn l t bt hn hcn hx ht
  clear hx ht
  generalize l.any (fun x => x.1 == t) = r at *
  go_enter Try.func52, Try.ntmps52
  go_wp2_with (go_at_call 54; refine H.mono ?_; rintro e w2 ⟨⟨i, rfl, hi⟩, hw2⟩; have hW := Lib.hid hw2; have hI := Lib.hid hi; clear hw2 hi)
  go_ret
  exact ⟨by rw [← hI.out]; rfl, hW.out⟩
/-- What the walk reads of an allocator: the cell of the queue, of the cells, of the gifts. -/
theorem Is.open {w : World} {p c : Nat} {qs : List Nat} {s : St} (h : Is w p c qs s) : ∃ ao cap, w.cell? ⟨p, 0, none⟩ = some (.slice (some ⟨c, 0, none⟩) s.cs.length s.cs.length) ∧
    w.cell? ⟨p, 10, none⟩ = some (.slice ao s.q.length cap) ∧ Row w 101 2 (.slice ao s.q.length cap) qs s.q.length (wcells s.q) ∧ s.q.length ≤ cap ∧ cap ≤ maxLen ∧ Rd w ao (s.q.length * 2) (wcells s.q) ∧
    (∀ i, i < 9 → w.cell? ⟨p, 1 + i, none⟩ = some (.int .i64 (s.gs.getD i 0))) ∧ (∀ j, j < s.cs.length → w.cell? ⟨c, j, none⟩ = some (.int .i64 (s.cs.getD j 0))) ∧
    (∀ i, w.frozen? ⟨p, i, none⟩ = false) ∧ (∀ i, w.frozen? ⟨c, i, none⟩ = false) := by
  obtain ⟨⟨qv, ⟨⟨arr, h1, h2, h3, h4, h5⟩, hcel, hne⟩, h6⟩, hqne, hok⟩ := h
  obtain ⟨ao, cap, rfl, k1, k2, k3⟩ := h6.rd
  refine ⟨ao, cap, (cell_at h1).trans h3, (cell_at h1).trans h5, h6, k1, k2, k3, fun i hi => (cell_at h1).trans (h4 i hi), fun j hj => ?_, fun i => free_at h1, fun i => free_at hcel⟩
  rw [cell_at hcel]
  simp [ints, hj]

theorem waits_any (w : World) (p c : Nat) (qs : List Nat) (s : St) (t : Int) (h : Is w p c qs s) :
    Calls Try.prog 48 #[.pointer (some ⟨p, 0, none⟩), .int .i64 t] w fun e w' => e = .returned (.bool (Ap.waits s t)) ∧ Ch [] w w' := by
  obtain ⟨ao, cap, o1, o2, o3, o4, o5, o6, o7, o8, o9, o10⟩ := h.open
  have hpl : p < w.heap.size := World.block_lt_of_cell? w _ o2
  have C0 : Ch [] w (w.alloc (.cells #[.int .i64 t] 3)) := (Ch.refl _ _).alloc _
  have ht : (w.alloc (.cells #[.int .i64 t] 3)).cell? ⟨w.heap.size, 0, none⟩ = some (.int .i64 t) := World.cell?_alloc_at _ _ _ _ rfl
  have hx : Rd (w.alloc (.cells #[.int .i64 t] 3)) ao (s.q.length * 2) (wcells s.q) := ⟨o6.1, o6.2.imp id fun ⟨b, off, ha, hc⟩ => ⟨b, off, ha, fun j hj => by
    have := hc j hj
    rw [List.getElem?_eq_getElem (by rw [o6.1]; exact hj)] at this ⊢
    exact C0.cell this (by simp)⟩⟩
  have H := ContainsFunc_any _ ao _ cap s.q t w.heap.size o4 o5 hx ht
  have HC := Lib.hid C0
  clear C0 ht hx o1 o3 o4 o5 o6 o7 o8 o9 o10
  unfold Ap.waits
  generalize s.q.any (fun x => x.1 == t) = r at *
  generalize s.q.length = n at *
  clear h
  go_enter Try.func48, Try.ntmps48
  go_wp2_with (go_at_call 52; refine H.mono ?_; rintro e w2 ⟨rfl, hw2⟩; have hW := Lib.hid hw2; clear hw2)
  go_ret
  exact ⟨rfl, HC.out.trans' hW.out⟩
theorem Is.setG {w : World} {p c : Nat} {qs : List Nat} {s : St} (h : Is w p c qs s) (t : Nat) (v : Int) (ht : t < 9) (hv : 0 ≤ v ∧ v ≤ s.cs.length) :
    Is (w.setCell ⟨p, 1 + t, none⟩ (.int .i64 v)) p c qs { s with gs := s.gs.set t v } := by
  obtain ⟨⟨qv, hd, hr⟩, hqne, hok⟩ := h
  exact ⟨⟨qv, hd.setG t v ht hok.gl, hr.keep (fun q hq o ho => (heap_set_ne (hqne q hq).1).trans ho)⟩, fun q hq => ⟨(hqne q hq).1, (hqne q hq).2.1, by simpa [World.setCell] using (hqne q hq).2.2⟩, hok.setG t v hv⟩
theorem Is.setC {w : World} {p c : Nat} {qs : List Nat} {s : St} (h : Is w p c qs s) (i : Nat) (v : Int) :
    Is (w.setCell ⟨c, i, none⟩ (.int .i64 v)) p c qs { s with cs := s.cs.set i v } := by
  obtain ⟨⟨qv, hd, hr⟩, hqne, hok⟩ := h
  exact ⟨⟨qv, hd.setC i v, hr.keep (fun q hq o ho => (heap_set_ne (hqne q hq).2.1).trans ho)⟩, fun q hq => ⟨(hqne q hq).1, (hqne q hq).2.1, by simpa [World.setCell] using (hqne q hq).2.2⟩, hok.setC i v⟩
/-- The queue's value is stored anew. -/
theorem Is.mkQ {w : World} {p c : Nat} {qs' : List Nat} {s : St} {qv : Value} (hd : Hd w p c s.cs s.gs qv) (v : Value) (q' : List (Int × Int)) (hr : Row w 101 2 v qs' q'.length (wcells q')) (hq : ∀ q ∈ qs', q ≠ p ∧ q ≠ c ∧ q < w.heap.size) (ok : Ok { s with q := q' }) :
    Is (w.setCell ⟨p, 10, none⟩ v) p c qs' { s with q := q' } :=
  ⟨⟨v, hd.setQ v, hr.keep (fun q hm o ho => (heap_set_ne (hq q hm).1).trans ho)⟩, fun q hm => ⟨(hq q hm).1, (hq q hm).2.1, by simpa [World.setCell] using (hq q hm).2.2⟩, ok⟩

/-- Ask, of what is no thread. -/
theorem Ask_no (w : World) (p c : Nat) (qs : List Nat) (s : St) (t b : Int) (h : Is w p c qs s) (ht : t < 1 ∨ 8 < t) :
    Calls Try.prog 19 #[.pointer (some ⟨p, 0, none⟩), .int .i64 t, .int .i64 b] w fun e w' => e = .returned (.tuple #[.int .i64 0, .bool false, .int .i64 120]) ∧ w' = w := by
  clear h
  rcases ht with ht | ht
  · go_enter Try.func19, Try.ntmps19
    go_wp2_with fail
    go_ret3
    exact ⟨rfl, rfl⟩
  · go_enter Try.func19, Try.ntmps19
    go_wp2_with fail
    go_ret3
    exact ⟨rfl, rfl⟩
theorem Ask_waits (w : World) (p c : Nat) (qs : List Nat) (s : St) (t b : Int) (h : Is w p c qs s) (h1 : 1 ≤ t) (h8 : t ≤ 8) (hw : Ap.waits s t = true) :
    Calls Try.prog 19 #[.pointer (some ⟨p, 0, none⟩), .int .i64 t, .int .i64 b] w fun e w' => e = .returned (.tuple #[.int .i64 0, .bool false, .int .i64 120]) ∧ Ch [] w w' := by
  have H := waits_any w p c qs s t h
  rw [hw] at H
  clear h hw
  go_enter Try.func19, Try.ntmps19
  go_wp2_with (go_at_call 48; refine H.mono ?_; rintro e w2 ⟨rfl, hw2⟩; have hW := Lib.hid hw2; clear hw2)
  go_ret3
  exact ⟨rfl, hW.out⟩
set_option maxHeartbeats 400000 in
theorem Ask_gift (w : World) (p c : Nat) (qs : List Nat) (s : St) (t : Nat) (b : Int) (G : Nat) (h : Is w p c qs s) (h1 : 1 ≤ t) (h8 : t ≤ 8) (hw : Ap.waits s t = false) (hG : s.gs.getD t 0 = (G : Int)) (hg : 1 ≤ G) :
    Calls Try.prog 19 #[.pointer (some ⟨p, 0, none⟩), .int .i64 t, .int .i64 b] w fun e w' => e = .returned (.tuple #[.int .i64 (G - 1), .bool true, .int .i64 0]) ∧
      Is w' p c qs { s with gs := s.gs.set t 0, cs := s.cs.set (G - 1) 1 } ∧ Ch [p, c] w w' := by
  have H := waits_any w p c qs s t h
  rw [hw] at H
  have gr := h.ok.gift t (by omega)
  rw [hG] at gr
  have ln := h.ok.len
  clear hw
  go_enter Try.func19, Try.ntmps19
  go_wp2_with fail
  refine H.mono ?_; rintro e w2 ⟨rfl, hw2⟩
  have h2 := h.ch hw2 (by simp) (by simp) (by simp)
  have hW := Lib.hid hw2
  have HI := Lib.hid h2
  obtain ⟨ao, cap, o1, o2, o3, o4, o5, o6, o7, o8, o9, o10⟩ := h2.open
  have g1 := o7 t (by omega)
  rw [hG] at g1
  have f1 := o9 (1 + t)
  have f2 := o10 (G - 1)
  have c2 := o8 (G - 1) (by omega)
  generalize s.cs.getD (G - 1) 0 = old at *
  have hne := h.ne
  have HL := Lib.hid ln
  obtain ⟨L, hL⟩ : ∃ L, L = s.cs.length := ⟨_, rfl⟩
  rw [← hL] at o1 gr ln
  have HHL := Lib.hid hL
  have HG := Lib.hid hG
  clear hw2 h2 o2 o3 o4 o5 o6 o7 o8 o9 o10 H h hL hG
  go_wp2_with fail
  go_ret3
  have I := HI.out
  have hl := HHL.out
  have I2 := (I.setG t 0 (by omega) ⟨by omega, by omega⟩).setC (G - 1) 1
  exact ⟨rfl, I2, ((hW.out.mono (by simp)).setCell ⟨p, 1 + t, none⟩ _ (.inl (by simp))).setCell ⟨c, G - 1, none⟩ _ (.inl (by simp))⟩
end Go.Proofs.Ytdncodandmjknaa.Al
