/-
  THE KEEPER of dapplelaw12 beside its allocator: what it holds in memory; waits.
-/
import Derived.Test.YtdncodandmjknaaAlloc5
import Derived.Test.YtdncodandmjknaaLaw12
set_option linter.unusedVariables false
set_option linter.unusedSimpArgs false
set_option maxRecDepth 100000
namespace Go.Proofs.Ytdncodandmjknaa.Kp
open Go.RowKit Go.Proofs.Ytdncodandmjknaa.Hp Go.Proofs.Ytdncodandmjknaa.Sm Go.Proofs.Ytdncodandmjknaa.Ap Go.Proofs.Ytdncodandmjknaa.Al

def whoV (cs : List Int) : List Value := cs.map (fun v => Value.bool (v != 0))
theorem whoV_set (cs : List Int) (i : Nat) (v : Int) : whoV (cs.set i v) = (whoV cs).set i (.bool (v != 0)) := by simp [whoV]
theorem whoV_same (cs : List Int) (i : Nat) (v : Int) (hv : v ≠ 0) (h : cs.getD i 0 ≠ 0) : whoV (cs.set i v) = whoV cs := by
  rw [whoV_set]
  by_cases hi : i < cs.length
  · have e : cs.getD i 0 = cs[i] := by simp [List.getD, hi]
    rw [e] at h
    have h1 : (v != 0) = true := by simpa using hv
    have h2 : (cs[i] != 0) = true := by simpa using h
    have : (whoV cs)[i]'(by simp [whoV]; exact hi) = .bool (v != 0) := by simp [whoV, h1, h2]
    rw [← this, List.set_getElem_self]
  · rw [List.set_eq_of_length_le (by simp [whoV]; omega)]
theorem whoV_get (cs : List Int) (i : Nat) (hi : i < cs.length) : (whoV cs)[i]? = some (.bool (cs.getD i 0 != 0)) := by
  simp [whoV, hi, List.getD]

/-- The keeper's own block p, and its block c of who has which cell; qv: the value of its queue. -/
structure Kd (w : World) (p c : Nat) (cs gs : List Int) (qv : Value) : Prop where
  blk : ∃ arr, w.heap[p]? = some (.cells arr 62 (0, 0)) ∧ arr.size = 11 ∧ arr[0]? = some (.slice (some ⟨c, 0, none⟩) cs.length cs.length) ∧
    (∀ i, i < 9 → arr[1 + i]? = some (.int .i64 (gs.getD i 0 - 1))) ∧ arr[10]? = some qv
  cel : w.heap[c]? = some (.cells (whoV cs).toArray 4 (0, 0))
  ne : p ≠ c
theorem Kd.ch {w w' : World} {p c : Nat} {cs gs : List Int} {qv : Value} {S : List Nat} (h : Kd w p c cs gs qv) (hc : Ch S w w') (hp : p ∉ S) (hcc : c ∉ S) : Kd w' p c cs gs qv := by
  obtain ⟨⟨arr, h1, h2, h3, h4, h5⟩, hcel, hne⟩ := h
  exact ⟨⟨arr, hc.heap h1 hp, h2, h3, h4, h5⟩, hc.heap hcel hcc, hne⟩
theorem Kd.setG {w : World} {p c : Nat} {cs gs : List Int} {qv : Value} (h : Kd w p c cs gs qv) (t : Nat) (v u : Int) (hu : u = v - 1) (ht : t < 9) (hgl : gs.length = 9) : Kd (w.setCell ⟨p, 1 + t, none⟩ (.int .i64 u)) p c cs (gs.set t v) qv := by
  subst hu
  obtain ⟨⟨arr, h1, h2, h3, h4, h5⟩, hcel, hne⟩ := h
  refine ⟨⟨_, heap_set h1 _, by simpa using h2, ?_, fun i hi => ?_, ?_⟩, (heap_set_ne (fun e => hne e.symm)).trans hcel, hne⟩
  · rw [Array.getElem?_setIfInBounds_ne (by omega)]; exact h3
  · by_cases e : i = t
    · subst e
      rw [Array.getElem?_setIfInBounds_self_of_lt (by omega)]
      simp [List.getD, List.getElem?_set, show i < gs.length by omega]
    · rw [Array.getElem?_setIfInBounds_ne (by omega), h4 i hi]
      simp [List.getD, List.getElem?_set, Ne.symm e]
  · rw [Array.getElem?_setIfInBounds_ne (by omega)]; exact h5
theorem Kd.setC {w : World} {p c : Nat} {cs gs : List Int} {qv : Value} (h : Kd w p c cs gs qv) (i : Nat) (v : Int) (b : Bool) (hb : b = (v != 0)) : Kd (w.setCell ⟨c, i, none⟩ (.bool b)) p c (cs.set i v) gs qv := by
  subst hb
  obtain ⟨⟨arr, h1, h2, h3, h4, h5⟩, hcel, hne⟩ := h
  refine ⟨⟨arr, (heap_set_ne hne).trans h1, h2, by simpa using h3, h4, h5⟩, ?_, hne⟩
  rw [heap_set hcel, whoV_set]
  congr 2
  apply Array.ext'
  simp
theorem Kd.same {w : World} {p c : Nat} {cs gs : List Int} {qv : Value} (h : Kd w p c cs gs qv) (i : Nat) (v : Int) (hv : v ≠ 0) (h0 : cs.getD i 0 ≠ 0) : Kd w p c (cs.set i v) gs qv := by
  obtain ⟨⟨arr, h1, h2, h3, h4, h5⟩, hcel, hne⟩ := h
  exact ⟨⟨arr, h1, h2, by simpa using h3, h4, h5⟩, by rw [whoV_same cs i v hv h0]; exact hcel, hne⟩
theorem Kd.setQ {w : World} {p c : Nat} {cs gs : List Int} {qv : Value} (h : Kd w p c cs gs qv) (v : Value) : Kd (w.setCell ⟨p, 10, none⟩ v) p c cs gs v := by
  obtain ⟨⟨arr, h1, h2, h3, h4, h5⟩, hcel, hne⟩ := h
  refine ⟨⟨_, heap_set h1 _, by simpa using h2, ?_, fun i hi => ?_, ?_⟩, (heap_set_ne (fun e => hne e.symm)).trans hcel, hne⟩
  · rw [Array.getElem?_setIfInBounds_ne (by omega)]; exact h3
  · rw [Array.getElem?_setIfInBounds_ne (by omega)]; exact h4 i hi
  · rw [Array.getElem?_setIfInBounds_self_of_lt (by omega)]

/-- The keeper, keeping what the allocator s should be. -/
structure Ks (w : World) (p c : Nat) (qs : List Nat) (s : St) : Prop where
  hd : ∃ qv, Kd w p c s.cs s.gs qv ∧ Row w 101 2 qv qs s.q.length (wcells s.q)
  qne : ∀ q ∈ qs, q ≠ p ∧ q ≠ c ∧ q < w.heap.size
theorem Ks.ne {w : World} {p c : Nat} {qs : List Nat} {s : St} (h : Ks w p c qs s) : p ≠ c := by obtain ⟨qv, hd, _⟩ := h.hd; exact hd.ne
theorem Ks.lt {w : World} {p c : Nat} {qs : List Nat} {s : St} (h : Ks w p c qs s) : p < w.heap.size ∧ c < w.heap.size := by
  obtain ⟨qv, ⟨⟨arr, h1, _⟩, h2, _⟩, _⟩ := h.hd
  exact ⟨lt_of h1, lt_of h2⟩
theorem Ks.ch {w w' : World} {p c : Nat} {qs : List Nat} {s : St} {S : List Nat} (h : Ks w p c qs s) (hc : Ch S w w') (hp : p ∉ S) (hcc : c ∉ S) (hq : ∀ q ∈ qs, q ∉ S) : Ks w' p c qs s := by
  obtain ⟨⟨qv, hd, hr⟩, hqne⟩ := h
  exact ⟨⟨qv, hd.ch hc hp hcc, hr.ch hc hq⟩, fun q hm => ⟨(hqne q hm).1, (hqne q hm).2.1, Nat.lt_of_lt_of_le (hqne q hm).2.2 hc.size⟩⟩
theorem Ks.open {w : World} {p c : Nat} {qs : List Nat} {s : St} (h : Ks w p c qs s) : ∃ ao cap, w.cell? ⟨p, 0, none⟩ = some (.slice (some ⟨c, 0, none⟩) s.cs.length s.cs.length) ∧
    w.cell? ⟨p, 10, none⟩ = some (.slice ao s.q.length cap) ∧ Row w 101 2 (.slice ao s.q.length cap) qs s.q.length (wcells s.q) ∧ s.q.length ≤ cap ∧ cap ≤ maxLen ∧ Rd w ao (s.q.length * 2) (wcells s.q) ∧
    (∀ i, i < 9 → w.cell? ⟨p, 1 + i, none⟩ = some (.int .i64 (s.gs.getD i 0 - 1))) ∧ (∀ j, j < s.cs.length → w.cell? ⟨c, j, none⟩ = some (.bool (s.cs.getD j 0 != 0))) ∧
    (∀ i, w.frozen? ⟨p, i, none⟩ = false) ∧ (∀ i, w.frozen? ⟨c, i, none⟩ = false) := by
  obtain ⟨⟨qv, ⟨⟨arr, h1, h2, h3, h4, h5⟩, hcel, hne⟩, h6⟩, hqne⟩ := h
  obtain ⟨ao, cap, rfl, k1, k2, k3⟩ := h6.rd
  refine ⟨ao, cap, (cell_at h1).trans h3, (cell_at h1).trans h5, h6, k1, k2, k3, fun i hi => (cell_at h1).trans (h4 i hi), fun j hj => ?_, fun i => free_at h1, fun i => free_at hcel⟩
  rw [cell_at hcel, List.getElem?_toArray, whoV_get _ _ hj]
theorem Ks.setG {w : World} {p c : Nat} {qs : List Nat} {s : St} (h : Ks w p c qs s) (t : Nat) (v u : Int) (hu : u = v - 1) (ht : t < 9) (hgl : s.gs.length = 9) :
    Ks (w.setCell ⟨p, 1 + t, none⟩ (.int .i64 u)) p c qs { s with gs := s.gs.set t v } := by
  obtain ⟨⟨qv, hd, hr⟩, hqne⟩ := h
  exact ⟨⟨qv, hd.setG t v u hu ht hgl, hr.keep (fun q hq o ho => (heap_set_ne (hqne q hq).1).trans ho)⟩, fun q hq => ⟨(hqne q hq).1, (hqne q hq).2.1, by simpa [World.setCell] using (hqne q hq).2.2⟩⟩
theorem Ks.setC {w : World} {p c : Nat} {qs : List Nat} {s : St} (h : Ks w p c qs s) (i : Nat) (v : Int) (b : Bool) (hb : b = (v != 0)) :
    Ks (w.setCell ⟨c, i, none⟩ (.bool b)) p c qs { s with cs := s.cs.set i v } := by
  obtain ⟨⟨qv, hd, hr⟩, hqne⟩ := h
  exact ⟨⟨qv, hd.setC i v b hb, hr.keep (fun q hq o ho => (heap_set_ne (hqne q hq).2.1).trans ho)⟩, fun q hq => ⟨(hqne q hq).1, (hqne q hq).2.1, by simpa [World.setCell] using (hqne q hq).2.2⟩⟩
theorem Ks.same {w : World} {p c : Nat} {qs : List Nat} {s : St} (h : Ks w p c qs s) (i : Nat) (v : Int) (hv : v ≠ 0) (h0 : s.cs.getD i 0 ≠ 0) : Ks w p c qs { s with cs := s.cs.set i v } := by
  obtain ⟨⟨qv, hd, hr⟩, hqne⟩ := h
  exact ⟨⟨qv, hd.same i v hv h0, hr⟩, hqne⟩
theorem Ks.mkQ {w : World} {p c : Nat} {qs' : List Nat} {s : St} {qv : Value} (hd : Kd w p c s.cs s.gs qv) (v : Value) (q' : List (Int × Int)) (hr : Row w 101 2 v qs' q'.length (wcells q')) (hq : ∀ q ∈ qs', q ≠ p ∧ q ≠ c ∧ q < w.heap.size) :
    Ks (w.setCell ⟨p, 10, none⟩ v) p c qs' { s with q := q' } :=
  ⟨⟨v, hd.setQ v, hr.keep (fun q hm o ho => (heap_set_ne (hq q hm).1).trans ho)⟩, fun q hm => ⟨(hq q hm).1, (hq q hm).2.1, by simpa [World.setCell] using (hq q hm).2.2⟩⟩

theorem waits_any (w : World) (p c : Nat) (qs : List Nat) (s : St) (t : Int) (h : Ks w p c qs s) (hq : s.q.length ≤ 8) :
    Calls Try.prog 46 #[.pointer (some ⟨p, 0, none⟩), .int .i64 t] w fun e w' => e = .returned (.bool (Ap.waits s t)) ∧ w = w' := by
  obtain ⟨ao, cap, o1, o2, o3, o4, o5, o6, o7, o8, o9, o10⟩ := h.open
  obtain ⟨hxl, b, off, hao, hcx⟩ := rd_wait o6
  obtain ⟨N, hN⟩ : ∃ N, N = s.q.length := ⟨_, rfl⟩
  rw [← hN] at o2 hao hcx hq
  have HA := Lib.hid hao
  have HC := Lib.hid hcx
  have HN := Lib.hid hN
  clear h o1 o3 o4 o5 o6 o7 o8 o9 o10 hao hcx hN hxl
  go_enter Try.func46, Try.ntmps46
  go_wp2_with fail
  go_loop [5] (fun i => ∃ k : Nat, k ≤ N ∧ i = .int .i64 k ∧ (∀ j, j < k → (s.q.getD j (0, 0)).1 ≠ t)) (fun i => N - (intOf i).toNat)
  case atStart => exact ⟨0, by omega, rfl, fun j hj => absurd hj (by omega)⟩
  case round =>
    obtain ⟨k, hk, rfl, hag⟩ := hrel
    have HG := Lib.hid hag
    clear hag
    by_cases hlt : k < N
    · obtain rfl := HA.out (by omega)
      obtain ⟨c1, c2⟩ := HC.out k hlt
      clear c2
      generalize hu : (s.q.getD k (0, 0)).1 = u at *
      have HU := Lib.hid hu
      clear hu
      have ltI : (k : Int) < N := by omega
      by_cases huv : u = t
      · have huv' : (u == t) = true := by simpa using huv
        have HUV := Lib.hid huv
        clear huv
        go_wp2_with fail
        go_ret
        refine ⟨?_, rfl⟩
        unfold Ap.waits
        rw [any_at (k := k) (by rw [← HN.out]; exact hlt) (by rw [HU.out, HUV.out])]
        rfl
      · have huv' : (u == t) = false := by simpa using huv
        have HUV := Lib.hid huv
        clear huv
        go_wp2_with fail
        go_round
        case rel => exact ⟨k + 1, by omega, by go_num, fun j hj => by
          rcases Nat.lt_or_ge j k with h | h
          · exact HG.out j h
          · obtain rfl : j = k := by omega
            rw [HU.out]; exact HUV.out⟩
        case measure => simp [intOf]; omega
    · obtain rfl : k = N := by omega
      go_wp2_with fail
      go_ret
      refine ⟨?_, rfl⟩
      unfold Ap.waits
      rw [any_none (fun j hj => HG.out j (by have := HN.out; omega))]
      rfl
end Go.Proofs.Ytdncodandmjknaa.Kp
