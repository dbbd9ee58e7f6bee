/-
  PLAIN LAWS (no program): words, their tags and numbers, and what is reckoned with them; both the program's and the reference's functions are shown to come to these.
  THE WALKS of package words: each function comes to WordsPure's number, and leaves the world as it is.
-/
import Derived.WalkKit
import Derived.Test.YtlhhcocdhkbdnaaDoorProg
import Derived.KernelRfl
namespace Go.Proofs.YtlhhcocdhkbdnaaDoor.Wd
open Go.RowKit

def okT (t : Int) : Bool := decide (1 ≤ t) && decide (t ≤ 8)
def lo (t : Int) : Int := if t = 5 then -576460752303423488 else if t = 7 then 1 else 0
def hi (t : Int) : Int := if t = 5 then 576460752303423487 else if t = 6 then 2147483647 else if t = 7 then 22 else if t = 8 then 2147483647 else 0
def okN (t n : Int) : Bool := decide (lo t ≤ n) && decide (n ≤ hi t)
def mkOk (t n : Int) : Bool := okT t && okN t n
def mkW (t n : Int) : Int := if mkOk t n = true then (n * 16 + t) % 18446744073709551616 else 0
def mkE (t n : Int) : Int := if okT t = true then (if okN t n = true then 0 else 11) else 10
def sN (x : Int) : Int := if 576460752303423487 < x / 16 then x / 16 - 1152921504606846976 else x / 16
def ofOk (x : Int) : Bool := mkOk (x % 16) (sN x)
def ofT (x : Int) : Int := if ofOk x = true then x % 16 else 0
def ofN (x : Int) : Int := if ofOk x = true then sN x else 0
def isRef (x : Int) : Bool := decide (ofT x = 8)
def cellN (x : Int) : Int := if isRef x = true then ofN x else 0
def refW (c : Int) : Int := mkW 8 c
def isInts (a b : Int) : Bool := decide (ofT a = 5) && decide (ofT b = 5)
/-- 0 the sum, 1 the difference, 2 the product, 3 the quotient, 4 what is left: the error (0: none) and the number. -/
def recE (what a b : Int) : Int :=
  if isInts a b = true then
    if what = 0 then mkE 5 (ofN a + ofN b) else if what = 1 then mkE 5 (ofN a - ofN b) else if what = 2 then mkE 5 (ofN a * ofN b)
    else if ofN b = 0 then 12 else if what = 3 then mkE 5 ((ofN a).tdiv (ofN b)) else mkE 5 ((ofN a).tmod (ofN b))
  else 10
def recW (what a b : Int) : Int :=
  if isInts a b = true then
    if what = 0 then mkW 5 (ofN a + ofN b) else if what = 1 then mkW 5 (ofN a - ofN b) else if what = 2 then mkW 5 (ofN a * ofN b)
    else if ofN b = 0 then 0 else if what = 3 then mkW 5 ((ofN a).tdiv (ofN b)) else mkW 5 ((ofN a).tmod (ofN b))
  else 0

theorem and15 (x : Int) (h0 : 0 ≤ x) (h1 : x < 18446744073709551616) : bits .and .u64 x 15 = x % 16 := by
  rw [u64_and x 15 h0 h1 (by omega) (by omega)]
  have : x.toNat &&& (15 : Int).toNat = x.toNat % 16 := Nat.and_two_pow_sub_one_eq_mod x.toNat 4
  rw [this]; omega
theorem and15b (x : Int) (h0 : 0 ≤ x) (h1 : x < 18446744073709551616) : bits .and .u64 x 15 % 256 = x % 16 := by
  rw [and15 x h0 h1]; omega
theorem shr4 (x : Int) (h0 : 0 ≤ x) (h1 : x < 18446744073709551616) : wrap64 x / 16 = sN x := by
  unfold wrap64 sN; split <;> omega
theorem shl4 (n t : Int) (ht0 : 0 ≤ t) (ht1 : t < 16) : bits .or .u64 (IntKind.u64.wrap (IntKind.u64.wrap n * 16)) t = (n * 16 + t) % 18446744073709551616 := by
  have e : ∀ m, IntKind.u64.wrap m = m % 18446744073709551616 := fun m => by simp [IntKind.wrap, IntKind.bits, IntKind.signed]
  rw [e, e, u64_or _ _ (by omega) (by omega) ht0 (by omega)]
  have key : ∀ a b : Nat, b < 16 → (16 * a) ||| b = 16 * a + b := fun a b hb => by
    have := Nat.two_pow_add_eq_or_of_lt (i := 4) (b := b) (by omega) a
    simpa using this.symm
  obtain ⟨q, hq⟩ : ∃ q : Nat, (n % 18446744073709551616 * 16 % 18446744073709551616).toNat = 16 * q := ⟨(n % 18446744073709551616 * 16 % 18446744073709551616 / 16).toNat, by omega⟩
  rw [hq, key q t.toNat (by omega)]; omega
theorem sN_range (x : Int) (h0 : 0 ≤ x) (h1 : x < 18446744073709551616) : -576460752303423488 ≤ sN x ∧ sN x ≤ 576460752303423487 := by
  unfold sN; split <;> omega
theorem ofN_range (x : Int) : -576460752303423488 ≤ ofN x ∧ ofN x ≤ 576460752303423487 := by
  unfold ofN; split
  · rename_i h
    unfold ofOk mkOk okN lo hi at h
    simp only [Bool.and_eq_true, decide_eq_true_eq] at h
    obtain ⟨_, h1, h2⟩ := h
    repeat' split at h1
    all_goals repeat' split at h2
    all_goals omega
  · omega
theorem ofT_range (x : Int) : 0 ≤ ofT x ∧ ofT x ≤ 8 := by
  unfold ofT; split
  · rename_i h; unfold ofOk mkOk okT at h; simp at h; omega
  · omega
theorem mkW_range (t n : Int) : 0 ≤ mkW t n ∧ mkW t n < 18446744073709551616 := by
  unfold mkW; split <;> omega
theorem cellN_range (x : Int) : 0 ≤ cellN x ∧ cellN x ≤ 2147483647 := by
  unfold cellN; split
  · rename_i h
    unfold isRef ofT at h
    unfold ofN
    by_cases ho : ofOk x = true
    · rw [if_pos ho] at h ⊢
      have ho' := ho
      simp only [decide_eq_true_eq] at h
      unfold ofOk mkOk okN at ho'
      rw [h] at ho'
      simp [lo, hi] at ho'; omega
    · rw [if_neg ho] at h; simp at h
  · omega
/-- What was made is told. -/
theorem of_mk (t n : Int) (h : mkOk t n = true) : ofOk (mkW t n) = true ∧ mkW t n % 16 = t ∧ sN (mkW t n) = n := by
  have h' := h
  unfold mkOk okT okN lo hi at h'
  simp only [Bool.and_eq_true, decide_eq_true_eq] at h'
  have e1 : mkW t n % 16 = t := by unfold mkW; rw [if_pos h]; omega
  have e2 : sN (mkW t n) = n := by
    unfold mkW sN; rw [if_pos h]
    obtain ⟨⟨_, _⟩, h3, h4⟩ := h'
    repeat' split at h3
    all_goals repeat' split at h4
    all_goals split <;> omega
  exact ⟨by unfold ofOk; rw [e1, e2]; exact h, e1, e2⟩
theorem true_tag (x : Int) (h0 : 0 ≤ x) (h1 : x < 18446744073709551616) : (x != 2) = (ofT x != 2) := by
  rw [Bool.eq_iff_iff, bne_iff_ne, bne_iff_ne]
  constructor
  · intro h he
    apply h
    unfold ofT at he
    split at he
    · rename_i ho
      unfold ofOk mkOk okN lo hi at ho
      rw [he] at ho
      simp only [Bool.and_eq_true, decide_eq_true_eq, Int.reduceEq, if_false] at ho
      have e2 : sN x = 0 := by omega
      unfold sN at e2
      split at e2 <;> omega
    · omega
  · intro h he
    subst he
    exact h (by decide)
theorem mk_of (x : Int) (h0 : 0 ≤ x) (h1 : x < 18446744073709551616) (h : ofOk x = true) : mkW (ofT x) (ofN x) = x ∧ mkE (ofT x) (ofN x) = 0 := by
  have eT : ofT x = x % 16 := by simp [ofT, h]
  have eN : ofN x = sN x := by simp [ofN, h]
  have hm : mkOk (x % 16) (sN x) = true := h
  rw [eT, eN]
  constructor
  · unfold mkW; rw [if_pos hm]; unfold sN; split <;> omega
  · unfold mkOk at hm
    simp only [Bool.and_eq_true] at hm
    simp [mkE, hm.1, hm.2]
theorem of_inj (x y : Int) (h0 : 0 ≤ x) (h1 : x < 18446744073709551616) (k0 : 0 ≤ y) (k1 : y < 18446744073709551616) (hx : ofOk x = true) (hy : ofOk y = true) (hT : ofT x = ofT y) (hN : ofN x = ofN y) : x = y := by
  rw [← (mk_of x h0 h1 hx).1, ← (mk_of y k0 k1 hy).1, hT, hN]
theorem ref_cell (x : Int) (h0 : 0 ≤ x) (h1 : x < 18446744073709551616) (h : isRef x = true) : refW (cellN x) = x ∧ cellN x = ofN x ∧ ofT x = 8 ∧ ofOk x = true := by
  have hT : ofT x = 8 := by simpa [isRef] using h
  have ho : ofOk x = true := by
    cases o : ofOk x
    · simp [ofT, o] at hT
    · rfl
  have hc : cellN x = ofN x := by simp [cellN, h]
  have := (mk_of x h0 h1 ho).1
  rw [hT] at this
  exact ⟨by unfold refW; rw [hc]; exact this, hc, hT, ho⟩
end Go.Proofs.YtlhhcocdhkbdnaaDoor.Wd

set_option linter.unusedSimpArgs false
set_option linter.unusedVariables false
namespace Go.Proofs.YtlhhcocdhkbdnaaDoor.Wd
open Go.RowKit

/-- The table of bounds lies as the program's text lays it. -/
def Bnd (w : World) : Prop := ∀ t : Nat, t ≤ 8 → w.cell? ⟨0, t * 2, none⟩ = some (.int .i64 (lo t)) ∧ w.cell? ⟨0, t * 2 + 1, none⟩ = some (.int .i64 (hi t))

theorem Bnd.block {w : World} (h : Bnd w) : 0 < w.heap.size := by
  have h0 := (h 0 (by omega)).1
  rcases Nat.lt_or_ge 0 w.heap.size with hh | hh
  · exact hh
  · simp [World.cell?, Array.getElem?_eq_none hh] at h0
theorem Bnd.below {w w' : World} {B : Nat} (h : Bnd w) (hb : Below B w w') (hB : w.heap.size ≤ B) : Bnd w' := fun t ht =>
  ⟨(hb.cell (p := ⟨0, t * 2, none⟩) (Nat.lt_of_lt_of_le h.block hB)).trans (h t ht).1, (hb.cell (p := ⟨0, t * 2 + 1, none⟩) (Nat.lt_of_lt_of_le h.block hB)).trans (h t ht).2⟩
theorem Bnd.below' {w w' : World} {B : Nat} (h : Bnd w) (hb : Below B w w') (hB : 0 < B) : Bnd w' := fun t ht =>
  ⟨(hb.cell (p := ⟨0, t * 2, none⟩) hB).trans (h t ht).1, (hb.cell (p := ⟨0, t * 2 + 1, none⟩) hB).trans (h t ht).2⟩
theorem Bnd.alloc {w : World} (h : Bnd w) (o : Obj) : Bnd (w.alloc o) := h.below ((Below.refl _ _).alloc (Nat.le_refl _) o) (Nat.le_refl _)
theorem Bnd.drew {w : World} (h : Bnd w) : Bnd w.drew := h

theorem may_at (w : World) (t : Int) (n : Int) (h1 : 1 ≤ t) (h8 : t ≤ 8) (hb : Bnd w) :
    Calls Tryd.prog 107 #[.int .u8 t, .int .i64 n] w fun e w' => e = .returned (.bool (okN t n)) ∧ w' = w := by
  obtain ⟨t, rfl⟩ := Int.eq_ofNat_of_zero_le (show 0 ≤ t by omega)
  obtain ⟨l, g⟩ := hb t (by omega)
  clear hb
  unfold okN
  generalize lo t = a at *
  generalize hi t = b at *
  by_cases c : a ≤ n
  · have ca : decide (a ≤ n) = true := by simp [c]
    clear c
    go_enter Tryd.func107, Tryd.ntmps107
    go_wp2
    go_ret
    exact ⟨by simp [ca], rfl⟩
  · have ca : decide (a ≤ n) = false := by simp [c]
    clear c
    go_enter Tryd.func107, Tryd.ntmps107
    go_wp2
    go_ret
    exact ⟨by simp [ca], rfl⟩

theorem Of_any (w : World) (x : Int) (h0 : 0 ≤ x) (hx : x < 18446744073709551616) (hb : Bnd w) :
    Calls Tryd.prog 94 #[.int .u64 x] w fun e w' => e = .returned (.tuple #[.int .u8 (ofT x), .int .i64 (ofN x), .bool (ofOk x)]) ∧ w' = w := by
  have e1 := and15b x h0 hx
  have e2 := shr4 x h0 hx
  by_cases h1 : 1 ≤ x % 16
  · by_cases h8 : x % 16 ≤ 8
    · have H := (may_at w (x % 16) (sN x) h1 h8 hb)
      have ht : okT (x % 16) = true := by simp [okT, h1, h8]
      rw [← e1, ← e2] at H
      rw [← e1] at h1 h8
      cases hn : okN (x % 16) (sN x)
      · have ho : ofOk x = false := by simp [ofOk, mkOk, hn]
        have hT : ofT x = 0 := by simp [ofT, ho]
        have hN : ofN x = 0 := by simp [ofN, ho]
        rw [ho, hT, hN]
        rw [e1, e2, hn, ← e1, ← e2] at H
        clear e1 e2 ho hT hN hn ht hb
        go_enter Tryd.func94, Tryd.ntmps94
        go_wp2_with (go_at_call 107; refine H.mono ?_; rintro e w' ⟨rfl, rfl⟩)
        go_ret3
        exact ⟨rfl, rfl⟩
      · have ho : ofOk x = true := by simp [ofOk, mkOk, hn, ht]
        have hT : ofT x = bits .and .u64 x 15 % 256 := by rw [e1]; simp [ofT, ho]
        have hN : ofN x = wrap64 x / 16 := by rw [e2]; simp [ofN, ho]
        rw [ho, hT, hN]
        rw [e1, e2, hn, ← e1, ← e2] at H
        clear e1 e2 ho hT hN hn ht hb
        go_enter Tryd.func94, Tryd.ntmps94
        go_wp2_with (go_at_call 107; refine H.mono ?_; rintro e w' ⟨rfl, rfl⟩)
        go_ret3
        exact ⟨rfl, rfl⟩
    · have ht : okT (x % 16) = false := by simp [okT]; omega
      have ho : ofOk x = false := by simp [ofOk, mkOk, ht]
      have hT : ofT x = 0 := by simp [ofT, ho]
      have hN : ofN x = 0 := by simp [ofN, ho]
      rw [ho, hT, hN]
      rw [← e1] at h1 h8
      clear e1 e2 ho hT hN ht hb
      go_enter Tryd.func94, Tryd.ntmps94
      go_wp2_with fail
      go_ret3
      exact ⟨rfl, rfl⟩
  · have ht : okT (x % 16) = false := by simp [okT]; omega
    have ho : ofOk x = false := by simp [ofOk, mkOk, ht]
    have hT : ofT x = 0 := by simp [ofT, ho]
    have hN : ofN x = 0 := by simp [ofN, ho]
    rw [ho, hT, hN]
    rw [← e1] at h1
    clear e1 e2 ho hT hN ht hb
    go_enter Tryd.func94, Tryd.ntmps94
    go_wp2_with fail
    go_ret3
    exact ⟨rfl, rfl⟩
theorem Cell_any (w : World) (x : Int) (h0 : 0 ≤ x) (hx : x < 18446744073709551616) (hb : Bnd w) :
    Calls Tryd.prog 73 #[.int .u64 x] w fun e w' => e = .returned (.tuple #[.int .i64 (cellN x), .bool (isRef x)]) ∧ w' = w := by
  have H := Of_any w x h0 hx hb
  have hr := ofN_range x
  cases hi : isRef x
  · have hc : cellN x = 0 := by simp [cellN, hi]
    have hi' : (ofT x != 8) = true := by simpa [isRef] using hi
    rw [hc]
    generalize ofT x = a at *; generalize ofN x = b at *; generalize ofOk x = c at *
    clear hb hi hc
    go_enter Tryd.func73, Tryd.ntmps73
    go_wp2_with (go_at_call 94; refine H.mono ?_; rintro e w' ⟨rfl, rfl⟩)
    go_ret2
    exact ⟨rfl, rfl⟩
  · have hc : cellN x = ofN x := by simp [cellN, hi]
    have hi' : (ofT x != 8) = false := by simpa [isRef] using hi
    rw [hc]
    generalize ofT x = a at *; generalize ofN x = b at *; generalize ofOk x = c at *
    clear hb hi hc
    go_enter Tryd.func73, Tryd.ntmps73
    go_wp2_with (go_at_call 94; refine H.mono ?_; rintro e w' ⟨rfl, rfl⟩)
    go_ret2
    exact ⟨rfl, rfl⟩
end Go.Proofs.YtlhhcocdhkbdnaaDoor.Wd
