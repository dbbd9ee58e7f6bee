/-
  A heap and a sweeper that are both the law's own; THE WALKS of dapplelaw16: known, SweepNumbers.
-/
import Derived.Test.YtkcplmablelmbaaSweep2
set_option linter.unusedVariables false
set_option linter.unusedSimpArgs false
set_option maxRecDepth 100000
namespace Go.Proofs.Ytkcplmablelmbaa.Sw
open Go.RowKit Go.Proofs.Ytkcplmablelmbaa.Hp Go.Proofs.Ytkcplmablelmbaa.Ato Go.Proofs.Ytkcplmablelmbaa.Cp Go.Proofs.Ytkcplmablelmbaa.Cl

/-- The law began in w0; its heap holds l, its sweeper is at a and has freed f. -/
structure K (w0 w : World) (v p s : Nat) (F : List Nat) (l : List Cel) (a f : Nat) : Prop where
  is : Is w p s F l
  at' : At w v p a f
  nv : v ∉ F
  ch : Ch [] w0 w
  fr : ∀ b ∈ F, w0.heap.size ≤ b
  vf : w0.heap.size ≤ v

theorem K.chg {w0 w w' : World} {v p s : Nat} {F : List Nat} {l : List Cel} {a f : Nat} (h : K w0 w v p s F l a f) (hc : Ch [] w w') : K w0 w' v p s F l a f :=
  ⟨h.is.ch hc (by simp), hc.heap h.at' (by simp), h.nv, h.ch.trans0 hc, h.fr, h.vf⟩
theorem K.to {w0 w w' : World} {v p s : Nat} {F : List Nat} {l l' : List Cel} {a f : Nat} (h : K w0 w v p s F l a f) (ht : To w w' p s F l') : ∃ F', K w0 w' v p s F' l' a f := by
  obtain ⟨F', h1, h2, h3⟩ := ht
  refine ⟨F', h1, h2.heap h.at' (by simp; exact fun e => h.nv (e ▸ h.is.sf)), ?_, h.ch.trans h2 (by simp; exact h.fr _ h.is.sf), ?_, h.vf⟩
  · intro hm
    rcases h3 v hm with h' | h'
    · exact h.nv h'
    · have := lt_of h.at'; omega
  · intro b hb
    rcases h3 b hb with h' | h'
    · exact h.fr b h'
    · exact Nat.le_trans h.ch.size h'
theorem K.step {w0 w : World} {v p s : Nat} {F : List Nat} {l : List Cel} {a f : Nat} (h : K w0 w v p s F l a f) (ha : a ≤ 5000) (hf : f ≤ 5000)
    (c : Int) (b : Bool) (e' : Int) (l' : List Cel) (a' f' : Nat) (h1 : cellOf l a = c ∧ backOf l a = b ∧ errOf l a = e' ∧ next l a = l' ∧ atOf l a = a' ∧ freedOf l a f = f') :
    Calls Try.prog 12 #[.pointer (some ⟨v, 0, none⟩)] w fun e w' => e = .returned (.tuple #[.int .i64 c, .bool b, .int .i64 e']) ∧ ∃ F', K w0 w' v p s F' l' a' f' := by
  obtain ⟨rfl, rfl, rfl, rfl, rfl, rfl⟩ := h1
  refine (Step_any w v p s F l a f h.is h.at' h.nv ha hf).mono ?_
  rintro e w' ⟨h1, F', h2, h3, h4, h5⟩
  refine ⟨h1, F', h2, h3, fun hm => ?_, h.ch.trans h4 (by simp; exact ⟨h.fr _ h.is.sf, h.vf⟩), ?_, h.vf⟩
  · rcases h5 v hm with h' | h'
    · exact h.nv h'
    · have := lt_of h.at'; omega
  · intro b hb
    rcases h5 b hb with h' | h'
    · exact h.fr b h'
    · exact Nat.le_trans h.ch.size h'
theorem K.begin {w0 w : World} {v p s : Nat} {F : List Nat} {l : List Cel} {a f : Nat} (h : K w0 w v p s F l a f) :
    Calls Try.prog 10 #[.pointer (some ⟨v, 0, none⟩)] w fun e w' => e = .returned (.tuple #[]) ∧ K w0 w' v p s F l 0 0 := by
  refine (Begin_any w v p a f h.at').mono ?_
  rintro e w' ⟨h1, h2, h3⟩
  exact ⟨h1, h.is.ch h3 (by simp; exact fun b hb e => h.nv (e ▸ hb)), h2, h.nv, h.ch.trans h3 (by simp; exact h.vf), h.fr, h.vf⟩
theorem K.done {w0 w : World} {v p s : Nat} {F : List Nat} {l : List Cel} {a f : Nat} (h : K w0 w v p s F l a f) (b : Bool) (hb : decide (l.length ≤ a) = b) :
    Calls Try.prog 11 #[.pointer (some ⟨v, 0, none⟩)] w fun e w' => e = .returned (.bool b) ∧ K w0 w' v p s F l a f := by
  subst hb
  refine (Done_any w v p s a f F l h.is h.at').mono ?_
  rintro e w' ⟨h1, d, rfl⟩
  exact ⟨h1, h.chg ((Ch.refl _ _).drewN _)⟩
theorem K.new {w0 w : World} {p s : Nat} {F : List Nat} {l : List Cel} (h : Is w p s F l) (hc : Ch [] w0 w) (hf : ∀ b ∈ F, w0.heap.size ≤ b) :
    Calls Try.prog 9 #[.pointer (some ⟨p, 0, none⟩)] w fun e w' => ∃ v, e = .returned (.pointer (some ⟨v, 0, none⟩)) ∧ K w0 w' v p s F l l.length 0 := by
  refine (New_any w p s F l h).mono ?_
  rintro e w' ⟨h1, h2, h3⟩
  exact ⟨_, h1, h.ch h3 (by simp), h2, fun hm => by have := h.lt _ hm; omega, hc.trans0 h3, hf, hc.size⟩

def lit : List Cel := [⟨1, 2, 0, 0⟩, ⟨2, 0, 0, 0⟩, free, ⟨1, 0, 0, 0⟩]

theorem known_any (w : World) : Calls Try.prog 7 #[] w fun e w' => e = .returned (.bool true) ∧ Ch [] w w' := by
  have H1 := heap_any (w.alloc (.cells (flat lit).toArray 29)) (some ⟨w.heap.size, 0, none⟩) 4 lit (by unfold lit InR; decide) ⟨rfl, .inr ⟨w.heap.size, 0, rfl, fun j hj => (cell_at (heap_new _ _)).trans (by simp)⟩⟩ ⟨by decide, by decide⟩
  have hf : (flat lit).toArray = #[.int .u8 1, .int .u8 2, .int .u64 0, .int .u64 0, .int .u8 2, .int .u8 0, .int .u64 0, .int .u64 0, .int .u8 0, .int .u8 0, .int .u64 0, .int .u64 0, .int .u8 1, .int .u8 0, .int .u64 0, .int .u64 0] := rfl
  rw [hf, show lit.map norm = lit by decide, show lit.length = 4 from rfl] at H1
  go_enter Try.func7, Try.ntmps7
  go_wp2_with fail
  refine H1.mono ?_
  rintro e w1 ⟨p, s, F, o, rfl, h1, h2, h3, h4, h5⟩
  have N1 := K.new h1 (((Ch.refl [] w).alloc _).trans0 h5) (fun b hb => by have := (h4 b hb).1; simp at this; omega)
  clear h1 h2 h3 h4 h5 H1 hf
  go_wp2_with fail
  refine N1.mono ?_
  rintro e w2 ⟨v, rfl, k1⟩
  have K1 := Lib.hid k1
  clear k1 N1
  go_wp2_with fail
  refine (K1.out.done true (by decide)).mono ?_
  rintro e w3 ⟨rfl, k1⟩
  have K2 := Lib.hid k1
  clear k1 K1
  go_wp2_with fail
  refine K2.out.begin.mono ?_
  rintro e w4 ⟨rfl, k1⟩
  have K3 := Lib.hid k1
  clear k1 K2
  go_wp2_with fail
  refine wp_loop_rounds 5 ?_
  rw [rounds_succ]
  go_wp2_with fail
  refine (K3.out.step (by omega) (by omega) 0 false 0 [⟨1, 0, 0, 0⟩, ⟨2, 0, 0, 0⟩, free, ⟨1, 0, 0, 0⟩] 1 0 (by decide)).mono ?_
  rintro e w5 ⟨rfl, F5, k1⟩
  have K4 := Lib.hid k1
  clear k1 K3
  go_wp2_with fail
  rw [rounds_succ]
  go_wp2_with fail
  refine (K4.out.step (by omega) (by omega) 1 true 0 [⟨1, 0, 0, 0⟩, free, free, ⟨1, 0, 0, 0⟩] 2 1 (by decide)).mono ?_
  rintro e w6 ⟨rfl, F6, k1⟩
  have K5 := Lib.hid k1
  clear k1 K4
  go_wp2_with fail
  rw [rounds_succ]
  go_wp2_with fail
  refine (K5.out.step (by omega) (by omega) 2 false 0 [⟨1, 0, 0, 0⟩, free, free, ⟨1, 0, 0, 0⟩] 3 1 (by decide)).mono ?_
  rintro e w7 ⟨rfl, F7, k1⟩
  have K6 := Lib.hid k1
  clear k1 K5
  go_wp2_with fail
  rw [rounds_succ]
  go_wp2_with fail
  refine (K6.out.step (by omega) (by omega) 3 true 0 [⟨1, 0, 0, 0⟩, free, free, free] 4 2 (by decide)).mono ?_
  rintro e w8 ⟨rfl, F8, k1⟩
  have K7 := Lib.hid k1
  clear k1 K6
  go_wp2_with fail
  rw [rounds_succ]
  go_wp2_with fail
  refine (K7.out.step (by omega) (by omega) 0 false 160 [⟨1, 0, 0, 0⟩, free, free, free] 4 2 (by decide)).mono ?_
  rintro e w9 ⟨rfl, F9, k1⟩
  have HH := Head_any w9 p s F9 _ 0 k1.is
  rw [show headK [⟨1, 0, 0, 0⟩, free, free, free] 0 = 1 by decide, show headC [⟨1, 0, 0, 0⟩, free, free, free] 0 = 0 by decide, show headE [⟨1, 0, 0, 0⟩, free, free, free] 0 = 0 by decide] at HH
  have K8 := Lib.hid k1
  clear k1 K7
  go_wp2_with fail
  refine HH.mono ?_
  rintro e w10 ⟨rfl, d, rfl⟩
  have K9 := Lib.hid (K8.out.chg ((Ch.refl [] w9).drewN d))
  clear K8 HH
  generalize w9.drewN d = w11 at *
  go_wp2_with fail
  refine (At_any w11 v p 4 2 K9.out.at').mono ?_
  rintro e w12 ⟨rfl, rfl⟩
  go_wp2_with fail
  refine (Freed_any w11 v p 4 2 K9.out.at').mono ?_
  rintro e w12 ⟨rfl, rfl⟩
  go_wp2_with fail
  refine (K9.out.done true (by decide)).mono ?_
  rintro e w12 ⟨rfl, k1⟩
  have C := Lib.hid k1.ch
  clear k1 K9
  go_wp2_with fail
  go_ret
  exact ⟨rfl, C.out⟩

theorem SweepNumbers_any (w : World) : Calls Try.prog 3 #[] w fun e w' => e = .returned (.bool true) ∧ Ch [] w w' := by
  go_enter Try.func3, Try.ntmps3
  go_wp2_with fail
  refine (known_any w).mono ?_
  rintro e w1 ⟨rfl, h1⟩
  have H := Lib.hid h1
  clear h1
  go_wp2_with fail
  go_ret
  exact ⟨rfl, H.out⟩
end Go.Proofs.Ytkcplmablelmbaa.Sw
