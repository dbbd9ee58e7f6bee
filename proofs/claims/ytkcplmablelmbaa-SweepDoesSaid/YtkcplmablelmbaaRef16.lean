/-
  THE WALKS of dappleref16 (the document's sweeper over a list), and of dappleref00.SameCells.
-/
import Derived.Test.YtkcplmablelmbaaSweep6
set_option linter.unusedVariables false
set_option linter.unusedSimpArgs false
set_option maxRecDepth 100000
namespace Go.Proofs.Ytkcplmablelmbaa.Sw
open Go.RowKit Go.Proofs.Ytkcplmablelmbaa.Hp Go.Proofs.Ytkcplmablelmbaa.Ato Go.Proofs.Ytkcplmablelmbaa.Cp Go.Proofs.Ytkcplmablelmbaa.Cl

/-- The document's sweeper, in block v. -/
def RAt (w : World) (v : Nat) (a f : Nat) : Prop := w.heap[v]? = some (.cells #[.int .i64 a, .int .i64 f] 61 (0, 0))

theorem RNew_any (w : World) (n : Nat) :
    Calls Try.prog 18 #[.int .i64 n] w fun e w' => e = .returned (.pointer (some ⟨w.heap.size, 0, none⟩)) ∧ RAt w' w.heap.size n 0 ∧ Ch [] w w' := by
  go_enter Try.func18, Try.ntmps18
  go_wp2_with fail
  go_ret
  exact ⟨rfl, heap_new w _, (Ch.refl _ _).alloc _⟩
theorem RBegin_any (w : World) (v a f : Nat) (h : RAt w v a f) :
    Calls Try.prog 19 #[.pointer (some ⟨v, 0, none⟩)] w fun e w' => e = .returned (.tuple #[]) ∧ RAt w' v 0 0 ∧ Ch [v] w w' := by
  have c0 := cell_at (i := 0) h
  have c1 := cell_at (i := 1) h
  have f0 := free_at (i := 0) h
  have f1 := free_at (i := 1) h
  simp only [List.getElem?_toArray, List.getElem?_cons_zero, List.getElem?_cons_succ] at c0 c1
  have H := Lib.hid h
  clear h
  go_enter Try.func19, Try.ntmps19
  go_wp2_with fail
  go_end0
  exact ⟨rfl, heap_set (i := 1) (heap_set (i := 0) H.out _) _, ((Ch.refl _ _).setCell _ _ (.inl (by simp))).setCell _ _ (.inl (by simp))⟩
set_option maxHeartbeats 4000000 in
theorem RStep_any (w : World) (v o : Nat) (l : List Cel) (a f : Nat) (h : RAt w v a f) (ho : w.heap[o]? = some (.cells (flat l).toArray 29 (0, 0))) (hne : o ≠ v) (hok : ∀ x ∈ l, OkC x) (hl : l.length ≤ 4096) (ha : a ≤ 5000) (hf : f ≤ 5000) :
    Calls Try.prog 21 #[.pointer (some ⟨v, 0, none⟩), .slice (some ⟨o, 0, none⟩) l.length l.length] w fun e w' => e = .returned (.tuple #[.int .i64 (cellOf l a), .bool (backOf l a), .int .i64 (errOf l a)]) ∧
      RAt w' v (atOf l a) (freedOf l a f) ∧ w'.heap[o]? = some (.cells (flat (next l a)).toArray 29 (0, 0)) ∧ Ch [o, v] w w' := by
  have c0 := cell_at (i := 0) h
  have c1 := cell_at (i := 1) h
  have f0 := free_at (i := 0) h
  have f1 := free_at (i := 1) h
  simp only [List.getElem?_toArray, List.getElem?_cons_zero, List.getElem?_cons_succ] at c0 c1
  have H := Lib.hid h
  have HO := Lib.hid ho
  by_cases hlt : a < l.length
  · have hw : way l a = if (l.getD a free).k = 0 then 1 else if (l.getD a free).c = 1 then 0 else if (l.getD a free).c = 0 then 2 else 3 := by simp only [way, hlt, if_true]
    have hA : ∀ t, t < 4 → w.cell? ⟨o, a * 4 + t, none⟩ = (cel (l.getD a free)).toList[t]? := fun t ht => (cell_at ho).trans (by rw [List.getElem?_toArray]; exact flat_get l a t hlt ht)
    have hfr : ∀ t, w.frozen? ⟨o, t, none⟩ = false := fun t => free_at ho
    have hx : ∀ x : Cel, flat (l.set a x) = ((((flat l).set (a * 4) (.int .u8 x.k)).set (a * 4 + 1) (.int .u8 x.c)).set (a * 4 + 2) (.int .u64 x.a)).set (a * 4 + 3) (.int .u64 x.b) := fun x => (flat_set l a x hlt).symm
    have hxc := flat_setc l a 0 hlt
    have ok : OkC (l.getD a free) := hok _ (by rw [show l.getD a free = l[a] by simp [List.getD, hlt]]; exact List.getElem_mem hlt)
    have d0 := hA 0 (by omega)
    have d1 := hA 1 (by omega)
    have d2 := hA 2 (by omega)
    have d3 := hA 3 (by omega)
    have g0 := hfr (a * 4)
    have g1 := hfr (a * 4 + 1)
    have g2 := hfr (a * 4 + 2)
    have g3 := hfr (a * 4 + 3)
    have hX := Lib.hid hx
    have hXC := Lib.hid hxc
    have e1 : cellOf l a = if way l a = 0 then 0 else (a : Int) := rfl
    have e2 : backOf l a = (way l a == 2) := rfl
    have e3 : errOf l a = if way l a = 0 then 160 else 0 := rfl
    have e4 : next l a = if way l a = 2 then l.set a free else if way l a = 3 then l.set a { l.getD a free with c := 0 } else l := rfl
    have e5 : atOf l a = if way l a = 0 then a else a + 1 := rfl
    have e6 : freedOf l a f = if way l a = 2 then f + 1 else f := rfl
    rw [e1, e2, e3, e4, e5, e6]
    clear e1 e2 e3 e4 e5 e6 hA hfr hx hxc h ho hok
    generalize l.getD a free = x at *
    obtain ⟨k, c, xa, xb⟩ := x
    simp only [cel, List.getElem?_cons_zero, List.getElem?_cons_succ, Nat.add_zero] at d0 d1 d2 d3 hw
    generalize hL : l.length = n at *
    have hltI : (a : Int) < n := by omega
    have hne' : v ≠ o := fun e => hne e.symm
    by_cases hk : k = 0
    · subst hk
      rw [if_pos rfl] at hw
      rw [hw]
      clear hw ok
      go_enter Try.func21, Try.ntmps21
      go_wp2_with fail
      go_ret3
      exact ⟨rfl, heap_set (i := 0) H.out _, (heap_set_ne hne).trans HO.out, (Ch.refl _ _).setCell _ _ (.inl (by simp))⟩
    · have hk' : (k != 0) = true := by simpa using hk
      have hk2 : (k == 0) = false := by simpa using hk
      rw [if_neg hk] at hw
      by_cases hc1 : c = 1
      · subst hc1
        rw [if_pos rfl] at hw
        rw [hw]
        clear hw ok hk
        go_enter Try.func21, Try.ntmps21
        go_wp2_with fail
        go_ret3
        exact ⟨rfl, H.out, HO.out, Ch.refl _ _⟩
      · have hc1' : (c == 1) = false := by simpa using hc1
        rw [if_neg hc1] at hw
        by_cases hc0 : c = 0
        · subst hc0
          rw [if_pos rfl] at hw
          rw [hw]
          clear hw ok hk hc1
          go_enter Try.func21, Try.ntmps21
          go_wp2_with fail
          go_ret3
          have s0 := (heap_set_ne (w := w) (b := v) (i := 0) (u := .int .i64 ((a : Int) + 1)) hne).trans HO.out
          have s1 := heap_set (i := a * 4 + 3) (heap_set (i := a * 4 + 2) (heap_set (i := a * 4 + 1) (heap_set (i := a * 4) s0 (.int .u8 0)) (.int .u8 0)) (.int .u64 0)) (.int .u64 0)
          refine ⟨rfl, ?_, ?_, ?_⟩
          · have q := heap_set (i := 0) H.out (.int .i64 ((a : Int) + 1))
            have q1 := (heap_set_ne (b := o) (i := a * 4) (u := .int .u8 0) hne').trans q
            have q2 := (heap_set_ne (b := o) (i := a * 4 + 1) (u := .int .u8 0) hne').trans q1
            have q3 := (heap_set_ne (b := o) (i := a * 4 + 2) (u := .int .u64 0) hne').trans q2
            have q4 := (heap_set_ne (b := o) (i := a * 4 + 3) (u := .int .u64 0) hne').trans q3
            exact heap_set (i := 1) q4 (.int .i64 ((f : Int) + 1))
          · refine (heap_set_ne hne).trans ?_
            rw [s1]
            simp only [List.setIfInBounds_toArray]
            have := hX.out free
            simp only [free] at this
            rw [← this]; rfl
          · exact ((((((Ch.refl _ _).setCell _ _ (.inl (by simp))).setCell _ _ (.inl (by simp))).setCell _ _ (.inl (by simp))).setCell _ _ (.inl (by simp))).setCell _ _ (.inl (by simp))).setCell _ _ (.inl (by simp))
        · have hc0' : (c == 0) = false := by simpa using hc0
          rw [if_neg hc0] at hw
          rw [hw]
          clear hw ok hk hc1 hc0
          go_enter Try.func21, Try.ntmps21
          go_wp2_with fail
          go_ret3
          refine ⟨rfl, ?_, ?_, ?_⟩
          · exact (heap_set_ne hne').trans (heap_set (i := 0) H.out _)
          · have s0 := (heap_set_ne (w := w) (b := v) (i := 0) (u := .int .i64 ((a : Int) + 1)) hne).trans HO.out
            have s1 := heap_set (i := a * 4 + 1) s0 (.int .u8 0)
            rw [s1, List.setIfInBounds_toArray, hXC.out]
          · exact ((Ch.refl _ _).setCell _ _ (.inl (by simp))).setCell _ _ (.inl (by simp))
  · have hw : way l a = 0 := by simp only [way, hlt, if_false]
    have e1 : cellOf l a = 0 ∧ backOf l a = false ∧ errOf l a = 160 ∧ next l a = l ∧ atOf l a = a ∧ freedOf l a f = f := by simp [cellOf, backOf, errOf, next, atOf, freedOf, hw]
    obtain ⟨r1, r2, r3, r4, r5, r6⟩ := e1
    rw [r1, r2, r3, r4, r5, r6]
    generalize l.length = n at *
    have hltI : (n : Int) ≤ a := by omega
    clear hw r1 r2 r3 r4 r5 r6 ho h hok
    go_enter Try.func21, Try.ntmps21
    go_wp2_with fail
    go_ret3
    exact ⟨rfl, H.out, HO.out, Ch.refl _ _⟩

theorem SameCells_any (w : World) (o1 o2 : Nat) (l : List Cel) (h1 : w.heap[o1]? = some (.cells (flat l).toArray 29 (0, 0))) (h2 : w.heap[o2]? = some (.cells (flat l).toArray 29 (0, 0))) (hl : l.length ≤ 4096) :
    Calls Try.prog 22 #[.slice (some ⟨o1, 0, none⟩) l.length l.length, .slice (some ⟨o2, 0, none⟩) l.length l.length] w fun e w' => e = .returned (.bool true) ∧ ∃ d, w' = w.drewN d := by
  have hA : ∀ j t, j < l.length → t < 4 → w.cell? ⟨o1, j * 4 + t, none⟩ = (cel (l.getD j free)).toList[t]? := fun j t hj ht => (cell_at h1).trans (by rw [List.getElem?_toArray]; exact flat_get l j t hj ht)
  have hB : ∀ j t, j < l.length → t < 4 → w.cell? ⟨o2, j * 4 + t, none⟩ = (cel (l.getD j free)).toList[t]? := fun j t hj ht => (cell_at h2).trans (by rw [List.getElem?_toArray]; exact flat_get l j t hj ht)
  have HA := Lib.hid hA
  have HB := Lib.hid hB
  clear hA hB h1 h2
  generalize l.length = n at *
  go_enter Try.func22, Try.ntmps22
  go_wp2_with fail
  go_loopw [5] (fun i wr => ∃ k d : Nat, k ≤ n ∧ i = .int .i64 k ∧ wr = w.drewN d) (fun i _ => n - (intOf i).toNat)
  case atStart => exact ⟨0, 0, by omega, rfl, rfl⟩
  case round =>
    obtain ⟨k, d, hk, rfl, rfl⟩ := hrel
    by_cases hlt : k < n
    · have a0 : (w.drewN d).cell? _ = _ := HA.out k 0 hlt (by omega)
      have a1 : (w.drewN d).cell? _ = _ := HA.out k 1 hlt (by omega)
      have a2 : (w.drewN d).cell? _ = _ := HA.out k 2 hlt (by omega)
      have a3 : (w.drewN d).cell? _ = _ := HA.out k 3 hlt (by omega)
      have b0 : (w.drewN d).cell? _ = _ := HB.out k 0 hlt (by omega)
      have b1 : (w.drewN d).cell? _ = _ := HB.out k 1 hlt (by omega)
      have b2 : (w.drewN d).cell? _ = _ := HB.out k 2 hlt (by omega)
      have b3 : (w.drewN d).cell? _ = _ := HB.out k 3 hlt (by omega)
      have hltI : (k : Int) < n := by omega
      have DD : ∃ wd, wd = w.drewN d := ⟨_, rfl⟩
      obtain ⟨wd, hwd⟩ := DD
      rw [← hwd] at a0 a1 a2 a3 b0 b1 b2 b3 ⊢
      have HW := Lib.hid hwd
      clear hwd
      simp only [cel, List.getElem?_toArray, List.getElem?_cons_zero, List.getElem?_cons_succ, Nat.add_zero] at a0 a1 a2 a3 b0 b1 b2 b3
      generalize l.getD k free = x at *
      obtain ⟨xk, xc, xa, xb⟩ := x
      simp only at a0 a1 a2 a3 b0 b1 b2 b3
      go_wp2_with fail
      go_quiet (fail)
      go_wp2_with fail
      go_roundw
      case rel => exact ⟨k + 1, _, by omega, by go_num, by rw [HW.out, World.drewN_drewN]⟩
      case measure => simp [intOf]; omega
    · obtain rfl : k = n := by omega
      go_wp2_with fail
      go_ret
      exact ⟨rfl, d, rfl⟩
end Go.Proofs.Ytkcplmablelmbaa.Sw
