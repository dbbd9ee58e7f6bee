/-
  THE WALK of dapplelaw01.WordsReckons: true for every two words.
-/
import Derived.Test.YticlgmlhkkimkaaDoorLaw01
import Derived.Test.YticlgmlhkkimkaaDoorRef01b
set_option linter.unusedSimpArgs false
set_option linter.unusedVariables false
set_option maxRecDepth 100000
namespace Go.Proofs.YticlgmlhkkimkaaDoor.L01
open Go.RowKit Go.Proofs.YticlgmlhkkimkaaDoor.Wd

theorem Reckon_any (w : World) (k : Nat) (hk : k < 5) (x y : Int) (h0 : 0 ≤ x) (hx : x < 18446744073709551616) (k0 : 0 ≤ y) (hy : y < 18446744073709551616) :
    Calls Tryd.prog 24 #[.int .i64 k, .int .u64 x, .int .u64 y] w fun e w' => e = .returned (.tuple #[.int .u64 (recW k x y), .int .i64 (recE k x y)]) ∧ w' = w := by
  match k, hk with
  | 0, _ => exact Rd.Reckon_0 w x y h0 hx k0 hy
  | 1, _ => exact Rd.Reckon_1 w x y h0 hx k0 hy
  | 2, _ => exact Rd.Reckon_2 w x y h0 hx k0 hy
  | 3, _ => exact Rd.Reckon_3 w x y h0 hx k0 hy
  | 4, _ => exact Rd.Reckon_4 w x y h0 hx k0 hy

set_option maxHeartbeats 1000000 in
theorem WordsReckons_any (w : World) (x y : Int) (hx0 : 0 ≤ x) (hx : x < 18446744073709551616) (hy0 : 0 ≤ y) (hy : y < 18446744073709551616) (hb : Bnd w) :
    Calls Tryd.prog 6 #[.int .u64 x, .int .u64 y] w fun e w' => e = .returned (.bool true) ∧ Below w.heap.size w w' := by
  have K := known_any w hb
  have hBn : ∀ o1 o2, Bnd ((w.alloc o1).alloc o2) := fun o1 o2 => (hb.alloc o1).alloc o2
  have HB := Lib.hid hBn
  have hBel : ∀ o1 o2, Below w.heap.size w ((w.alloc o1).alloc o2) := fun o1 o2 => ((Below.refl _ _).alloc (Nat.le_refl _) _).alloc (by simp) _
  have HC := Lib.hid hBel
  clear hBn hBel hb
  have hm1 : ∀ w, (Instr.makeSlice 34 (.int .i64 5) (.int .i64 5)).run Tryd.prog w = .ok (.slice (some ⟨w.heap.size, 0, none⟩) 5 5) (w.alloc (.cells #[.int .u64 0, .int .u64 0, .int .u64 0, .int .u64 0, .int .u64 0] 26)) := fun _ => by kernel_rfl
  have hm2 : ∀ w, (Instr.makeSlice 42 (.int .i64 5) (.int .i64 5)).run Tryd.prog w = .ok (.slice (some ⟨w.heap.size, 0, none⟩) 5 5) (w.alloc (.cells #[.int .i64 0, .int .i64 0, .int .i64 0, .int .i64 0, .int .i64 0] 29)) := fun _ => by kernel_rfl
  go_enter Tryd.func6, Tryd.ntmps6
  go_wp2_with (first
    | (go_at_call 8; refine K.mono ?_; rintro e w' ⟨rfl, rfl⟩)
    | (go_at_call 19; refine (Add_any _ _ _ hx0 hx hy0 hy (HB.out _ _)).mono ?_; rintro e w' ⟨rfl, rfl⟩)
    | (go_at_call 20; refine (Sub_any _ _ _ hx0 hx hy0 hy (HB.out _ _)).mono ?_; rintro e w' ⟨rfl, rfl⟩)
    | (go_at_call 21; refine (Mul_any _ _ _ hx0 hx hy0 hy (HB.out _ _)).mono ?_; rintro e w' ⟨rfl, rfl⟩)
    | (go_at_call 22; refine (Quo_any _ _ _ hx0 hx hy0 hy (HB.out _ _)).mono ?_; rintro e w' ⟨rfl, rfl⟩)
    | (go_at_call 23; refine (Rem_any _ _ _ hx0 hx hy0 hy (HB.out _ _)).mono ?_; rintro e w' ⟨rfl, rfl⟩))
  have hel : ∀ k : Nat, k < 5 →
      ((w'.alloc (Obj.cells #[.int .u64 (recW 0 x y), .int .u64 (recW 1 x y), .int .u64 (recW 2 x y), .int .u64 (recW 3 x y), .int .u64 (recW 4 x y)] 26)).alloc (Obj.cells #[.int .i64 (recE 0 x y), .int .i64 (recE 1 x y), .int .i64 (recE 2 x y), .int .i64 (recE 3 x y), .int .i64 (recE 4 x y)] 29)).cell? ⟨w'.heap.size, k, none⟩ = some (.int .u64 (recW k x y)) ∧
      ((w'.alloc (Obj.cells #[.int .u64 (recW 0 x y), .int .u64 (recW 1 x y), .int .u64 (recW 2 x y), .int .u64 (recW 3 x y), .int .u64 (recW 4 x y)] 26)).alloc (Obj.cells #[.int .i64 (recE 0 x y), .int .i64 (recE 1 x y), .int .i64 (recE 2 x y), .int .i64 (recE 3 x y), .int .i64 (recE 4 x y)] 29)).cell? ⟨w'.heap.size + 1, k, none⟩ = some (.int .i64 (recE k x y)) := by
    intro k hk
    have e1 : ∀ (w : World) (o1 o2 : Array Value) (t1 t2 : TypeId) (i : Nat), ((w.alloc (.cells o1 t1)).alloc (.cells o2 t2)).cell? ⟨w.heap.size, i, none⟩ = o1[i]? := fun w o1 o2 t1 t2 i => by
      rw [World.cell?_alloc_old _ _ _ (by simp), World.cell?_alloc_at _ _ _ _ rfl]
    have e2 : ∀ (w : World) (o1 o2 : Array Value) (t1 t2 : TypeId) (i : Nat), ((w.alloc (.cells o1 t1)).alloc (.cells o2 t2)).cell? ⟨w.heap.size + 1, i, none⟩ = o2[i]? := fun w o1 o2 t1 t2 i => World.cell?_alloc_at _ _ _ _ (by simp)
    rw [e1, e2]
    match k, hk with
    | 0, _ | 1, _ | 2, _ | 3, _ | 4, _ => exact ⟨rfl, rfl⟩
  have HW := HB.out (Obj.cells #[.int .u64 (recW 0 x y), .int .u64 (recW 1 x y), .int .u64 (recW 2 x y), .int .u64 (recW 3 x y), .int .u64 (recW 4 x y)] 26) (Obj.cells #[.int .i64 (recE 0 x y), .int .i64 (recE 1 x y), .int .i64 (recE 2 x y), .int .i64 (recE 3 x y), .int .i64 (recE 4 x y)] 29)
  have HD := Lib.hid (HC.out (Obj.cells #[.int .u64 (recW 0 x y), .int .u64 (recW 1 x y), .int .u64 (recW 2 x y), .int .u64 (recW 3 x y), .int .u64 (recW 4 x y)] 26) (Obj.cells #[.int .i64 (recE 0 x y), .int .i64 (recE 1 x y), .int .i64 (recE 2 x y), .int .i64 (recE 3 x y), .int .i64 (recE 4 x y)] 29))
  have HE := Lib.hid hel
  clear hel HB HC K hm1 hm2
  generalize ((w'.alloc (Obj.cells #[.int .u64 (recW 0 x y), .int .u64 (recW 1 x y), .int .u64 (recW 2 x y), .int .u64 (recW 3 x y), .int .u64 (recW 4 x y)] 26)).alloc (Obj.cells #[.int .i64 (recE 0 x y), .int .i64 (recE 1 x y), .int .i64 (recE 2 x y), .int .i64 (recE 3 x y), .int .i64 (recE 4 x y)] 29)) = W at *
  go_loop [8] (fun i => ∃ k : Nat, k ≤ 5 ∧ i = .int .i64 k) (fun i => 5 - (intOf i).toNat)
  case atStart => exact ⟨0, by omega, rfl⟩
  case round =>
    obtain ⟨k, hk, rfl⟩ := hrel
    by_cases hlt : k < 5
    · obtain ⟨hy1, hy2⟩ := HE.out k hlt
      have R := Reckon_any W k hlt x y hx0 hx hy0 hy
      generalize recW k x y = q1 at *; generalize recE k x y = q2 at *
      clear HW
      go_wp2_with (first | (go_at_call 24; refine R.mono ?_; rintro e w' ⟨rfl, rfl⟩))
      go_round
      case rel => exact ⟨k + 1, by omega, by go_num⟩
      case measure => simp [intOf]; omega
    · obtain rfl : k = 5 := by omega
      have L := Less_any W x y hx0 hx hy0 hy HW
      have O1 := Rd.Of_any W x hx0 hx
      have O2 := Rd.Of_any W y hy0 hy
      cases hi : isInts x y
      · rw [hi, Bool.false_and, if_neg (by decide)] at L
        by_cases h5 : ofT x = 5
        · have h6 : (ofT y != 5) = true := by
            have := hi; simp [isInts, h5] at this; simpa using this
          rw [h5] at O1
          clear HW hi h5
          generalize ofN x = a2 at *; generalize ofOk x = a3 at *
          generalize ofT y = b1 at *; generalize ofN y = b2 at *; generalize ofOk y = b3 at *
          go_wp2_with (first | (go_at_call 25; refine L.mono ?_; rintro e w' ⟨rfl, rfl⟩) | (go_at_call 14; with_reducible refine O1.mono ?_; rintro e w' ⟨rfl, rfl⟩) | (go_at_call 14; with_reducible refine O2.mono ?_; rintro e w' ⟨rfl, rfl⟩))
          go_ret
          exact ⟨rfl, HD.out⟩
        · have h6 : (ofT x != 5) = true := by simpa using h5
          clear HW hi h5
          generalize ofT x = a1 at *; generalize ofN x = a2 at *; generalize ofOk x = a3 at *
          generalize ofT y = b1 at *; generalize ofN y = b2 at *; generalize ofOk y = b3 at *
          go_wp2_with (first | (go_at_call 25; refine L.mono ?_; rintro e w' ⟨rfl, rfl⟩) | (go_at_call 14; with_reducible refine O1.mono ?_; rintro e w' ⟨rfl, rfl⟩) | (go_at_call 14; with_reducible refine O2.mono ?_; rintro e w' ⟨rfl, rfl⟩))
          go_ret
          exact ⟨rfl, HD.out⟩
      · rw [hi, Bool.true_and, if_pos rfl] at L
        obtain ⟨h5, h6⟩ : ofT x = 5 ∧ ofT y = 5 := by simpa [isInts] using hi
        rw [h5] at O1; rw [h6] at O2
        clear HW hi h5 h6
        generalize ofN x = a2 at *; generalize ofOk x = a3 at *
        generalize ofN y = b2 at *; generalize ofOk y = b3 at *
        go_wp2_with (first | (go_at_call 25; refine L.mono ?_; rintro e w' ⟨rfl, rfl⟩) | (go_at_call 14; with_reducible refine O1.mono ?_; rintro e w' ⟨rfl, rfl⟩) | (go_at_call 14; with_reducible refine O2.mono ?_; rintro e w' ⟨rfl, rfl⟩))
        go_ret
        exact ⟨by simp, HD.out⟩
end Go.Proofs.YticlgmlhkkimkaaDoor.L01
