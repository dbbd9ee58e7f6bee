/-
  THE WALKS of dapplelaw12.works and AllocNumbers.
-/
import Derived.Test.YtdncodandmjknaaAlloc4
set_option linter.unusedVariables false
set_option linter.unusedSimpArgs false
set_option maxRecDepth 100000
namespace Go.Proofs.Ytdncodandmjknaa.L12
open Go.RowKit Go.Proofs.Ytdncodandmjknaa.Hp Go.Proofs.Ytdncodandmjknaa.Sm Go.Proofs.Ytdncodandmjknaa.Ap Go.Proofs.Ytdncodandmjknaa.Al

/-- An allocator that has been made since w0; of what was there in w0 nothing has changed. -/
def Own (w0 w : World) (p c : Nat) (s : St) : Prop := ∃ qs, Is w p c qs s ∧ Ch [] w0 w ∧ w0.heap.size ≤ p ∧ w0.heap.size ≤ c ∧ ∀ q ∈ qs, w0.heap.size ≤ q
theorem New_own (w : World) (n : Nat) (h4 : 4 ≤ n) (h4096 : n ≤ 4096) :
    Calls Try.prog 7 #[.int .i64 n] w fun e w' => ∃ p c, e = .returned (.tuple #[.pointer (some ⟨p, 0, none⟩), .int .i64 0]) ∧ Own w w' p c (new n) :=
  (New_any w n h4 h4096).mono fun e w' ⟨p, c, h1, h2, h3, h4, h5, _⟩ => ⟨p, c, h1, [], h2, h3, h4, h5, fun q hq => by cases hq⟩
theorem Own.ch {w0 w w' : World} {p c : Nat} {s : St} (h : Own w0 w p c s) (hc : Ch [] w w') : Own w0 w' p c s := by
  obtain ⟨qs, h1, h2, h3, h4, h5⟩ := h
  exact ⟨qs, h1.ch hc (by simp) (by simp) (by simp), h2.trans' hc, h3, h4, h5⟩
theorem Ask_own {w0 w : World} {p c : Nat} {s : St} (h : Own w0 w p c s) (t b : Int) (hb : -9223372036854775808 ≤ b ∧ b ≤ 9223372036854775807) {x : Int} {g : Bool} {er : Int} (h1 : askCell s t = x) (h2 : askGot s t = g) (h3 : askErr s t = er) :
    Calls Try.prog 19 #[.pointer (some ⟨p, 0, none⟩), .int .i64 t, .int .i64 b] w fun e w' => e = .returned (.tuple #[.int .i64 x, .bool g, .int .i64 er]) ∧ Own w0 w' p c (Ap.ask s t b) := by
  obtain ⟨qs, i1, i2, i3, i4, i5⟩ := h
  subst h1 h2 h3
  refine (Ask_any w p c qs s t b i1 hb).mono fun e w' ⟨k1, qs', k2, k3, k4⟩ => ⟨k1, qs', k2, i2.trans k3 (fun x hx => ?_), i3, i4, fun q hq => ?_⟩
  · right
    simp only [List.mem_cons] at hx
    rcases hx with rfl | rfl | hx
    · exact i3
    · exact i4
    · exact i5 x hx
  · rcases k4 q hq with h | h
    · exact i5 q h
    · exact Nat.le_trans i2.size h
theorem Back_own {w0 w : World} {p c : Nat} {s : St} (h : Own w0 w p c s) (k : Int) {n er : Int} (h1 : backN s k = n) (h2 : backErr s k = er) :
    Calls Try.prog 20 #[.pointer (some ⟨p, 0, none⟩), .int .i64 k] w fun e w' => e = .returned (.tuple #[.int .i64 n, .int .i64 er]) ∧ Own w0 w' p c (Ap.back s k) := by
  obtain ⟨qs, i1, i2, i3, i4, i5⟩ := h
  subst h1 h2
  refine (Back_any w p c qs s k i1).mono fun e w' ⟨k1, k2, k3⟩ => ⟨k1, qs, k2, i2.trans k3 (fun x hx => ?_), i3, i4, i5⟩
  right
  simp only [List.mem_cons, List.not_mem_nil, or_false] at hx
  rcases hx with rfl | rfl
  · exact i3
  · exact i4
theorem Free_own {w0 w : World} {p c : Nat} {s : St} (h : Own w0 w p c s) {l : List Int} (hl : freeL s = l) :
    Calls Try.prog 16 #[.pointer (some ⟨p, 0, none⟩)] w fun e w' => ∃ ao cap, e = .returned (.slice ao l.length cap) ∧ l.length ≤ cap ∧ cap ≤ maxLen ∧ Rd w' ao l.length (ints .i64 l) ∧ Own w0 w' p c s := by
  obtain ⟨qs, i1, i2, i3, i4, i5⟩ := h
  subst hl
  refine (Free_any w p c qs s i1).mono fun e w' ⟨v, rs, k1, k2, k3, k4⟩ => ?_
  obtain ⟨ao, cap, rfl, m1, m2, m3⟩ := k2.rd
  exact ⟨ao, cap, k1, m1, m2, by simpa using m3, Own.ch ⟨qs, i1, i2, i3, i4, i5⟩ k3⟩
set_option maxHeartbeats 1000000 in
theorem works_any (w : World) : Calls Try.prog 6 #[] w fun e w' => e = .returned (.bool true) ∧ Ch [] w w' := by
  go_enter Try.func6, Try.ntmps6
  go_wp2_with fail
  refine (New_own w 4 (by omega) (by omega)).mono ?_
  rintro e w1 ⟨p, c, rfl, i1⟩
  have I1 := Lib.hid i1
  clear i1
  go_wp2_with fail
  refine (New_bad _ 3 (by omega)).mono ?_
  rintro e w2 ⟨rfl, rfl⟩
  go_wp2_with fail
  refine (Ask_own I1.out 1 0 (by omega) (x := 0) (g := true) (er := 0) (by decide) (by decide) (by decide)).mono ?_
  rintro e w2 ⟨rfl, i2⟩
  have I2 := Lib.hid i2
  clear i2
  go_wp2_with fail
  refine (Ask_own I2.out 2 0 (by omega) (x := 1) (g := true) (er := 0) (by decide) (by decide) (by decide)).mono ?_
  rintro e w3 ⟨rfl, i3⟩
  have I3 := Lib.hid i3
  clear i3
  go_wp2_with fail
  refine (Back_own I3.out 0 (n := 0) (er := 0) (by decide) (by decide)).mono ?_
  rintro e w4 ⟨rfl, i4⟩
  have I4 := Lib.hid i4
  clear i4
  go_wp2_with fail
  refine (Back_own I4.out 3 (n := 0) (er := 120) (by decide) (by decide)).mono ?_
  rintro e w5 ⟨rfl, i5⟩
  have I5 := Lib.hid i5
  clear i5
  go_wp2_with fail
  refine (Free_own I5.out (l := [0, 2, 3]) (by decide)).mono ?_
  rintro e w6 ⟨ao, cap, rfl, h1, h2, h3, i6⟩
  have I6 := Lib.hid i6
  have H3 := Lib.hid h3
  clear i6 h3
  go_wp2_with fail
  have CA : Ch [] w6 (w6.alloc (.cells #[.int .i64 0, .int .i64 2, .int .i64 3] 3)) := (Ch.refl _ _).alloc _
  have rd2 : Rd (w6.alloc (.cells #[.int .i64 0, .int .i64 2, .int .i64 3] 3)) (some ⟨w6.heap.size, 0, none⟩) 3 (ints .i64 [0, 2, 3]) :=
    rd_new w6 .i64 [0, 2, 3] 3
  refine (SameInts_any _ ao (some ⟨w6.heap.size, 0, none⟩) 3 cap 3 3 [0, 2, 3] [0, 2, 3] h1 h2 (by omega) (by unfold maxLen; omega) (Rd.ch H3.out CA) rd2).mono ?_
  rintro e w7 ⟨rfl, d, rfl⟩
  have i7 := I6.out.ch (CA.drewN d)
  have I7 := Lib.hid i7
  clear i7 CA rd2
  go_wp2_with fail
  refine (Ask_own I7.out 9 0 (by omega) (x := 0) (g := false) (er := 120) (by decide) (by decide) (by decide)).mono ?_
  rintro e w8 ⟨rfl, i8⟩
  have I8 := Lib.hid i8
  clear i8
  go_wp2_with fail
  go_ret
  obtain ⟨qs, _, hc, _⟩ := I8.out
  exact ⟨rfl, hc⟩

theorem AllocNumbers_any (w : World) : Calls Try.prog 3 #[] w fun e w' => e = .returned (.bool true) ∧ Below w.heap.size w w' := by
  have W := works_any w
  go_enter Try.func3, Try.ntmps3
  go_wp2_with (go_at_call 6; refine W.mono ?_; rintro e w1 ⟨rfl, hc⟩; have HC := Lib.hid hc; clear hc)
  go_ret
  exact ⟨rfl, HC.out.below (by simp) (Nat.le_refl _)⟩
end Go.Proofs.Ytdncodandmjknaa.L12
