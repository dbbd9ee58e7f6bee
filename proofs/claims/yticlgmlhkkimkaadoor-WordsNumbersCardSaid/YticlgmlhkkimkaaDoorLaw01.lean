/-
  THE WALKS of package dapplelaw01: known, WordsNumbers, WordsMakes, WordsBack come to true, whatever the input.
-/
import Derived.Test.YticlgmlhkkimkaaDoorWords2
import Derived.Test.YticlgmlhkkimkaaDoorRef01
import Derived.Carry
import Derived.Lib.Hide
set_option linter.unusedSimpArgs false
set_option linter.unusedVariables false
set_option maxRecDepth 100000
namespace Go.Proofs.YticlgmlhkkimkaaDoor.L01
open Go.RowKit Go.Proofs.YticlgmlhkkimkaaDoor.Wd

theorem known_any (w : World) (hb : Bnd w) :
    Calls Tryd.prog 8 #[] w fun e w' => e = .returned (.bool true) ∧ w' = w := by
  have m1 : Calls Tryd.prog 9 #[.int .u8 5, .int .i64 5] w fun e w' => e = .returned (.tuple #[.int .u64 85, .int .i64 0]) ∧ w' = w := Make_any w 5 5 hb
  have m2 : Calls Tryd.prog 9 #[.int .u8 5, .int .i64 (-1)] w fun e w' => e = .returned (.tuple #[.int .u64 18446744073709551605, .int .i64 0]) ∧ w' = w := Make_any w 5 (-1) hb
  have m3 : Calls Tryd.prog 9 #[.int .u8 1, .int .i64 1] w fun e w' => e = .returned (.tuple #[.int .u64 0, .int .i64 11]) ∧ w' = w := Make_any w 1 1 hb
  have m4 : Calls Tryd.prog 9 #[.int .u8 9, .int .i64 0] w fun e w' => e = .returned (.tuple #[.int .u64 0, .int .i64 10]) ∧ w' = w := Make_any w 9 0 hb
  have m5 : Calls Tryd.prog 13 #[.int .u64 102] w fun e w' => e = .returned (.tuple #[.int .u8 6, .int .i64 6, .bool true]) ∧ w' = w := Of_any w 102 (by omega) (by omega) hb
  have m6 : Calls Tryd.prog 12 #[.int .i64 3] w fun e w' => e = .returned (.int .u64 56) ∧ w' = w := Ref_any w 3 (by omega) (by omega) hb
  have m7 : Calls Tryd.prog 15 #[.int .u64 56] w fun e w' => e = .returned (.tuple #[.int .i64 3, .bool true]) ∧ w' = w := Cell_any w 56 (by omega) (by omega) hb
  have m8 : Calls Tryd.prog 22 #[.int .u64 18446744073709551605, .int .u64 85] w fun e w' => e = .returned (.tuple #[.int .u64 5, .int .i64 0]) ∧ w' = w := Quo_any w 18446744073709551605 85 (by omega) (by omega) (by omega) (by omega) hb
  have m9 : Calls Tryd.prog 19 #[.int .u64 85, .int .u64 18446744073709551605] w fun e w' => e = .returned (.tuple #[.int .u64 69, .int .i64 0]) ∧ w' = w := Add_any w 85 18446744073709551605 (by omega) (by omega) (by omega) (by omega) hb
  clear hb
  go_enter Tryd.func8, Tryd.ntmps8
  go_wp2_with (first
    | (go_at_call 9; with_reducible refine m1.mono ?_; rintro e w' ⟨rfl, rfl⟩)
    | (go_at_call 9; with_reducible refine m2.mono ?_; rintro e w' ⟨rfl, rfl⟩)
    | (go_at_call 9; with_reducible refine m3.mono ?_; rintro e w' ⟨rfl, rfl⟩)
    | (go_at_call 9; with_reducible refine m4.mono ?_; rintro e w' ⟨rfl, rfl⟩)
    | (go_at_call 13; with_reducible refine m5.mono ?_; rintro e w' ⟨rfl, rfl⟩)
    | (go_at_call 12; with_reducible refine m6.mono ?_; rintro e w' ⟨rfl, rfl⟩)
    | (go_at_call 15; with_reducible refine m7.mono ?_; rintro e w' ⟨rfl, rfl⟩)
    | (go_at_call 22; with_reducible refine m8.mono ?_; rintro e w' ⟨rfl, rfl⟩)
    | (go_at_call 19; with_reducible refine m9.mono ?_; rintro e w' ⟨rfl, rfl⟩))
  go_ret
  exact ⟨rfl, rfl⟩

theorem WordsNumbers_any (w : World) (hb : Bnd w) :
    Calls Tryd.prog 3 #[] w fun e w' => e = .returned (.bool true) ∧ Below w.heap.size w w' := by
  have hc : ∀ k : Nat, k < 8 → (w.alloc (.cells #[.int .u8 1, .int .u8 2, .int .u8 3, .int .u8 4, .int .u8 5, .int .u8 6, .int .u8 7, .int .u8 8] 22)).cell? ⟨w.heap.size, k, none⟩ = some (.int .u8 (k + 1)) := by
    intro k hk
    rw [World.cell?_alloc_at (hn := rfl)]
    match k, hk with
    | 0, _ | 1, _ | 2, _ | 3, _ | 4, _ | 5, _ | 6, _ | 7, _ => rfl
  have K := known_any _ (hb.alloc (.cells #[.int .u8 1, .int .u8 2, .int .u8 3, .int .u8 4, .int .u8 5, .int .u8 6, .int .u8 7, .int .u8 8] 22))
  have HB : Below w.heap.size w (w.alloc (.cells #[.int .u8 1, .int .u8 2, .int .u8 3, .int .u8 4, .int .u8 5, .int .u8 6, .int .u8 7, .int .u8 8] 22)) := (Below.refl _ _).alloc (Nat.le_refl _) _
  clear hb
  go_enter Tryd.func3, Tryd.ntmps3
  go_wp2_with fail
  go_loop [2] (fun i => ∃ k : Nat, k ≤ 8 ∧ i = .int .i64 k) (fun i => 8 - (intOf i).toNat)
  case atStart => exact ⟨0, by omega, rfl⟩
  case round =>
    obtain ⟨k, hk, rfl⟩ := hrel
    by_cases hlt : k < 8
    · have c := hc k hlt
      clear hc HB K
      go_wp2
      go_round
      case rel => exact ⟨k + 1, by omega, by go_num⟩
      case measure => simp [intOf]; omega
    · clear hc
      obtain rfl : k = 8 := by omega
      have hB := Lib.hid HB
      clear HB
      go_wp2_with (go_at_call 8; refine K.mono ?_; rintro e w' ⟨rfl, rfl⟩)
      go_ret
      exact ⟨rfl, hB.out⟩
end Go.Proofs.YticlgmlhkkimkaaDoor.L01
