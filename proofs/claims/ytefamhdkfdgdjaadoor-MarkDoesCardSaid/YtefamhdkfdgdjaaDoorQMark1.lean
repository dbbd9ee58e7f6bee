/-
  CHAPTER 15: cells.Load; package mark: a marker as plain data and in memory; New, Lay.
-/
import Derived.Test.YtefamhdkfdgdjaaDoorQCells4
import Derived.Test.YtefamhdkfdgdjaaDoorQJWords
import Derived.Test.YtefamhdkfdgdjaaDoorQJApp
set_option linter.unusedVariables false
set_option linter.unusedSimpArgs false
set_option maxRecDepth 100000
namespace Go.Proofs.YtefamhdkfdgdjaaDoor.Mk
open Go.RowKit Go.Proofs.YtefamhdkfdgdjaaDoor.Wd Go.Proofs.YtefamhdkfdgdjaaDoor.Hp Go.Proofs.YtefamhdkfdgdjaaDoor.Sm Go.Proofs.YtefamhdkfdgdjaaDoor.Ato Go.Proofs.YtefamhdkfdgdjaaDoor.Cp Go.Proofs.YtefamhdkfdgdjaaDoor.Cl
theorem Bnd.ch {w w' : World} {T : List Nat} (h : Bnd w) (hc : Ch T w w') (hT : 0 ∉ T) : Bnd w' := fun t ht => ⟨hc.cell (h t ht).1 hT, hc.cell (h t ht).2 hT⟩
def loadE (l : List Cel) (i f : Int) : Int := if isC l i && (f == 0 || f == 1) then (if used l i then 0 else 31) else 1
def loadW (l : List Cel) (i f : Int) : Int := if loadE l i f = 0 then (if f = 0 then (Cp.get l i).a else (Cp.get l i).b) else 0
theorem field_any (w : World) (p s : Nat) (F : List Nat) (l : List Cel) (i f : Int) (h : Is w p s F l) :
    Calls Tryd.prog 81 #[.pointer (some ⟨p, 0, none⟩), .int .i64 i, .int .i64 f] w fun e w' => e = .returned (.bool (isC l i && (f == 0 || f == 1))) ∧ w' = w := by
  have H := is_any w p s F l i h
  clear h
  cases hi : isC l i
  · rw [hi] at H
    clear hi
    go_enter Tryd.func81, Tryd.ntmps81
    go_wp2_with fail
    refine H.mono ?_
    rintro e w' ⟨rfl, rfl⟩
    go_wp2_with fail
    go_ret
    exact ⟨rfl, rfl⟩
  · rw [hi] at H
    clear hi
    cases h0 : (f == 0)
    · go_enter Tryd.func81, Tryd.ntmps81
      go_wp2_with fail
      refine H.mono ?_
      rintro e w' ⟨rfl, rfl⟩
      go_wp2_with fail
      go_ret
      exact ⟨by simp, rfl⟩
    · go_enter Tryd.func81, Tryd.ntmps81
      go_wp2_with fail
      refine H.mono ?_
      rintro e w' ⟨rfl, rfl⟩
      go_wp2_with fail
      go_ret
      exact ⟨by simp, rfl⟩
theorem in_any (w : World) (b : Nat) (f : Int) :
    Calls Tryd.prog 83 #[.pointer (some ⟨b, 0, none⟩), .int .i64 f] w fun e w' => e = .returned (.pointer (some ⟨b, if f = 0 then 2 else 3, none⟩)) ∧ w' = w := by
  by_cases h0 : f = 0
  · subst h0
    go_enter Tryd.func83, Tryd.ntmps83
    go_wp2_with fail
    go_ret
    exact ⟨rfl, rfl⟩
  · have h0' : (f == 0) = false := by simpa using h0
    rw [if_neg h0]
    clear h0
    go_enter Tryd.func83, Tryd.ntmps83
    go_wp2_with fail
    go_ret
    exact ⟨rfl, rfl⟩
set_option maxHeartbeats 1000000 in
theorem LoadW_any (w : World) (p s : Nat) (F : List Nat) (l : List Cel) (i f : Int) (h : Is w p s F l) :
    Calls Tryd.prog 65 #[.pointer (some ⟨p, 0, none⟩), .int .i64 i, .int .i64 f] w fun e w' => e = .returned (.tuple #[.int .u64 (loadW l i f), .int .i64 (loadE l i f)]) ∧ Ch [] w w' := by
  have H := field_any w p s F l i f h
  cases hi : (isC l i && (f == 0 || f == 1))
  · have e : loadE l i f = 1 := by simp [loadE, hi]
    have e2 : loadW l i f = 0 := by simp [loadW, e]
    rw [e, e2]; rw [hi] at H
    clear h e e2 hi
    go_enter Tryd.func65, Tryd.ntmps65
    go_wp2_with fail
    refine H.mono ?_
    rintro e w' ⟨rfl, rfl⟩
    go_wp2_with fail
    go_ret2
    exact ⟨rfl, Ch.refl _ _⟩
  · rw [hi] at H
    have hi2 := hi
    simp only [Bool.and_eq_true] at hi2
    obtain ⟨n, rfl, hn⟩ := isC_nat hi2.1
    obtain ⟨po, o1, o2, o3, o4, o5⟩ := h.slot n hn
    have hU : used l (n : Int) = ((l.getD n free).k != 0) := by unfold used; rw [hi2.1, get_nat]; simp
    have hE : loadE l n f = if (l.getD n free).k != 0 then 0 else 31 := by unfold loadE; rw [hi, hU]; rfl
    have hW : loadW l n f = if (l.getD n free).k != 0 then (if f = 0 then (l.getD n free).a else (l.getD n free).b) else 0 := by
      unfold loadW
      rw [hE, get_nat]
      cases (l.getD n free).k != 0 <;> simp
    rw [hE, hW]
    have ln := h.len
    have ou := o4.used o5
    clear hE hW hU hi2
    generalize l.getD n free = x at *
    generalize l.length = L at *
    have L1 := Load_any w s n po o2 o4.slot
    rcases o4 with ⟨rfl, rfl⟩ | ⟨hne, b, hb, rfl, hh⟩
    · clear h hi ou
      go_enter Tryd.func65, Tryd.ntmps65
      go_wp2_with fail
      refine H.mono ?_
      rintro e w' ⟨rfl, rfl⟩
      go_wp2_with fail
      refine L1.mono ?_
      rintro e w' ⟨rfl, rfl⟩
      go_wp2_with fail
      go_ret2
      exact ⟨by simp [free], Ch.refl _ _⟩
    · have k0 := cell_at (i := 0) hh
      have k1 := cell_at (i := 1) hh
      have k2 := cell_at (i := 2) hh
      have k3 := cell_at (i := 3) hh
      simp only [cel, List.getElem?_toArray, List.getElem?_cons_zero, List.getElem?_cons_succ] at k0 k1 k2 k3
      have hk : (x.k != 0) = true := by rw [ou]; rfl
      rw [hk]
      simp only [if_true]
      clear h hi hne hh ou hk
      obtain ⟨xk, xc, xa, xb⟩ := x
      simp only at k0 k1 k2 k3 ⊢
      clear o5
      have CA := Lib.hid ((Ch.refl [] w).alloc (.cells #[.int .u8 xk, .int .u8 xc, .int .u64 xa, .int .u64 xb] 86))
      have IN := in_any (w.alloc (.cells #[.int .u8 xk, .int .u8 xc, .int .u64 xa, .int .u64 xb] 86)) w.heap.size f
      by_cases h0 : f = 0
      · rw [if_pos h0] at IN ⊢
        clear h0
        go_enter Tryd.func65, Tryd.ntmps65
        go_wp2_with fail
        refine H.mono ?_
        rintro e w' ⟨rfl, rfl⟩
        go_wp2_with fail
        refine L1.mono ?_
        rintro e w' ⟨rfl, rfl⟩
        go_wp2_with fail
        refine IN.mono ?_
        rintro e w2 ⟨rfl, rfl⟩
        go_wp2_with fail
        go_ret2
        exact ⟨rfl, CA.out⟩
      · rw [if_neg h0] at IN ⊢
        clear h0
        go_enter Tryd.func65, Tryd.ntmps65
        go_wp2_with fail
        refine H.mono ?_
        rintro e w' ⟨rfl, rfl⟩
        go_wp2_with fail
        refine L1.mono ?_
        rintro e w' ⟨rfl, rfl⟩
        go_wp2_with fail
        refine IN.mono ?_
        rintro e w2 ⟨rfl, rfl⟩
        go_wp2_with fail
        go_ret2
        exact ⟨rfl, CA.out⟩
end Go.Proofs.YtefamhdkfdgdjaaDoor.Mk
