/-
  What others do to the heap (dapplelaw16.change), and the argument []Op.
-/
import Derived.Test.YtkcplmablelmbaaRef16
import Derived.Test.YtkcplmablelmbaaOpenCells
set_option linter.unusedVariables false
set_option linter.unusedSimpArgs false
set_option maxRecDepth 100000
namespace Go.Proofs.Ytkcplmablelmbaa.Sw
open Go.ChangeShapes Go.WideShapes Go.Deep Go.RowKit Go.Proofs.Ytkcplmablelmbaa.Hp Go.Proofs.Ytkcplmablelmbaa.Ato Go.Proofs.Ytkcplmablelmbaa.Cp Go.Proofs.Ytkcplmablelmbaa.Cl

structure OpV where
  kd : Int
  n : Int
  c : Cel
  b : Int
def opc (x : OpV) : Array Value := #[.int .i64 x.kd, .int .i64 x.n, .int .u8 x.c.k, .int .u8 x.c.c, .int .u64 x.c.a, .int .u64 x.c.b, .int .u8 x.b]
def OpIn (x : OpV) : Prop := InR x.c ∧ 0 ≤ x.b ∧ x.b < 256
def chg (l : List Cel) (x : OpV) : List Cel := if x.kd = 2 then make l x.n x.c.k x.c.c x.c.a x.c.b else if x.kd = 3 then drop l x.n else if x.kd = 4 then turn l x.n x.c.c x.b else if x.kd = 5 then turn l x.n 0 1 else l

theorem To_chg {w w1 w2 : World} {p s : Nat} {F : List Nat} {l : List Cel} (hc : Ch [] w w1) (h : To w1 w2 p s F l) : To w w2 p s F l := by
  obtain ⟨F', h1, h2, h3⟩ := h
  exact ⟨F', h1, (hc.mono (T := [s]) (by simp)).trans' h2, fun b hb => (h3 b hb).imp id (Nat.le_trans hc.size)⟩

theorem change_any (w : World) (p s : Nat) (F : List Nat) (l : List Cel) (h : Is w p s F l) (x : OpV) (hx : OpIn x) :
    Calls Try.prog 20 #[.pointer (some ⟨p, 0, none⟩), .agg (opc x)] w fun e w' => e = .returned (.tuple #[]) ∧ To w w' p s F (Sw.chg l x) := by
  have hal : Ch [] w (w.alloc (.cells (opc x) 56)) := (Ch.refl [] w).alloc _
  have hi := h.ch hal (by simp)
  obtain ⟨⟨i1, i2, i3, i4, i5, i6, i7, i8⟩, i9, i10⟩ := hx
  have HM := fun (hh : x.kd = 2) => (Make_any _ p s F l x.n x.c.k x.c.c x.c.a x.c.b hi i2 ⟨i3, i5, i6, i7, i8⟩).mono (fun e w' (q : _ ∧ _) => show (e = .returned (.int .i64 (makeE l x.n x.c.k x.c.c))) ∧ To w w' p s F (Sw.chg l x) from ⟨q.1, by unfold Sw.chg; rw [if_pos hh]; exact To_chg hal q.2⟩)
  have HD := fun (hh : x.kd = 3) => (Drop_any _ p s F l x.n hi).mono (fun e w' (q : _ ∧ _) => show (e = .returned (.int .i64 (dropE l x.n))) ∧ To w w' p s F (Sw.chg l x) from ⟨q.1, by unfold Sw.chg; rw [if_neg (by omega), if_pos hh]; exact To_chg hal q.2⟩)
  have HT := fun (hh : x.kd = 4) => (Turn_any _ p s F l x.n x.c.c x.b hi i9).mono (fun e w' (q : _ ∧ _) => show (e = .returned (.bool (turnB l x.n x.c.c x.b))) ∧ To w w' p s F (Sw.chg l x) from ⟨q.1, by unfold Sw.chg; rw [if_neg (by omega), if_neg (by omega), if_pos hh]; exact To_chg hal q.2⟩)
  have HS := fun (hh : x.kd = 5) => (Shade_any _ p s F l x.n hi).mono (fun e w' (q : _ ∧ _) => show (e = .returned (.bool (turnB l x.n 0 1))) ∧ To w w' p s F (Sw.chg l x) from ⟨q.1, by unfold Sw.chg; rw [if_neg (by omega), if_neg (by omega), if_neg (by omega), if_pos hh]; exact To_chg hal q.2⟩)
  have H0 : ¬ (x.kd = 2 ∨ x.kd = 3 ∨ x.kd = 4 ∨ x.kd = 5) → To w (w.alloc (.cells (opc x) 56)) p s F (Sw.chg l x) := fun hh => by
    have e : Sw.chg l x = l := by unfold Sw.chg; rw [if_neg (by omega), if_neg (by omega), if_neg (by omega), if_neg (by omega)]
    rw [e]; exact h.to hal
  have A0 := Lib.hid H0
  have AM := Lib.hid HM
  have AD := Lib.hid HD
  have AT := Lib.hid HT
  have AS := Lib.hid HS
  clear H0 HM HD HT HS hi hal h
  generalize Sw.chg l x = l' at *
  unfold opc at *
  generalize makeE l x.n x.c.k x.c.c = r1 at *
  generalize dropE l x.n = r2 at *
  generalize turnB l x.n x.c.c x.b = r3 at *
  generalize turnB l x.n 0 1 = r4 at *
  obtain ⟨kd, n, ⟨ck, cc, ca, cb⟩, b⟩ := x
  simp only at *
  by_cases h2 : kd = 2
  · have A := AM.out h2
    subst h2
    clear A0 AM AD AT AS
    go_enter Try.func20, Try.ntmps20
    go_wp2_with fail
    refine A.mono ?_
    rintro e w2 ⟨rfl, ht⟩
    clear A
    go_wp2_with fail
    go_end0
    exact ⟨rfl, ht⟩
  · have h2' : (kd == 2) = false := by simpa using h2
    by_cases h3 : kd = 3
    · have A := AD.out h3
      subst h3
      clear A0 AM AD AT AS
      go_enter Try.func20, Try.ntmps20
      go_wp2_with fail
      refine A.mono ?_
      rintro e w2 ⟨rfl, ht⟩
      clear A
      go_wp2_with fail
      go_end0
      exact ⟨rfl, ht⟩
    · have h3' : (kd == 3) = false := by simpa using h3
      by_cases h4 : kd = 4
      · have A := AT.out h4
        subst h4
        clear A0 AM AD AT AS
        go_enter Try.func20, Try.ntmps20
        go_wp2_with fail
        refine A.mono ?_
        rintro e w2 ⟨rfl, ht⟩
        clear A
        go_wp2_with fail
        go_end0
        exact ⟨rfl, ht⟩
      · have h4' : (kd == 4) = false := by simpa using h4
        by_cases h5 : kd = 5
        · have A := AS.out h5
          subst h5
          clear A0 AM AD AT AS
          go_enter Try.func20, Try.ntmps20
          go_wp2_with fail
          refine A.mono ?_
          rintro e w2 ⟨rfl, ht⟩
          clear A
          go_wp2_with fail
          go_end0
          exact ⟨rfl, ht⟩
        · have h5' : (kd == 5) = false := by simpa using h5
          have A := Lib.hid (A0.out (by omega))
          clear A0 AM AD AT AS h2 h3 h4 h5
          go_enter Try.func20, Try.ntmps20
          go_wp2_with fail
          go_end0
          exact ⟨rfl, A.out⟩
end Go.Proofs.Ytkcplmablelmbaa.Sw
