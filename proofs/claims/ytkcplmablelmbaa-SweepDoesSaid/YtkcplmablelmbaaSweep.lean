/-
  THE WALKS of package sweep.
-/
import Derived.Test.YtkcplmablelmbaaCells4
import Derived.Test.YtkcplmablelmbaaSweepPure
import Derived.StillTailTactics
set_option linter.unusedVariables false
set_option linter.unusedSimpArgs false
set_option maxRecDepth 100000
namespace Go.Proofs.Ytkcplmablelmbaa.Sw
open Go.RowKit Go.Proofs.Ytkcplmablelmbaa.Hp Go.Proofs.Ytkcplmablelmbaa.Ato Go.Proofs.Ytkcplmablelmbaa.Cp Go.Proofs.Ytkcplmablelmbaa.Cl

/-- A sweeper of the heap at p, in block v. -/
def At (w : World) (v p : Nat) (a f : Nat) : Prop := w.heap[v]? = some (.cells #[.int .i64 a, .int .i64 f, .pointer (some ⟨p, 0, none⟩)] 43 (0, 0))

theorem New_any (w : World) (p s : Nat) (F : List Nat) (l : List Cel) (h : Is w p s F l) :
    Calls Try.prog 9 #[.pointer (some ⟨p, 0, none⟩)] w fun e w' => e = .returned (.pointer (some ⟨w.heap.size, 0, none⟩)) ∧ At w' w.heap.size p l.length 0 ∧ Ch [] w w' := by
  have H := Len_any w p s F l h
  have h' := Lib.hid h
  clear h
  generalize l.length = n at *
  go_enter Try.func9, Try.ntmps9
  go_wp2_with (go_at_call 25; refine H.mono ?_; rintro e w' ⟨rfl, rfl⟩)
  go_ret
  exact ⟨rfl, heap_new w _, (Ch.refl _ _).alloc _⟩
theorem Begin_any (w : World) (v p a f : Nat) (h : At w v p a f) :
    Calls Try.prog 10 #[.pointer (some ⟨v, 0, none⟩)] w fun e w' => e = .returned (.tuple #[]) ∧ At w' v p 0 0 ∧ Ch [v] w w' := by
  have c0 := cell_at (i := 0) h
  have c1 := cell_at (i := 1) h
  have f0 := free_at (i := 0) h
  have f1 := free_at (i := 1) h
  simp only [List.getElem?_toArray, List.getElem?_cons_zero, List.getElem?_cons_succ] at c0 c1
  have H := Lib.hid h
  clear h
  go_enter Try.func10, Try.ntmps10
  go_wp2_with fail
  go_end0
  exact ⟨rfl, heap_set (i := 1) (heap_set (i := 0) H.out _) _, ((Ch.refl _ _).setCell _ _ (.inl (by simp))).setCell _ _ (.inl (by simp))⟩
theorem Step_any (w : World) (v p s : Nat) (F : List Nat) (l : List Cel) (a f : Nat) (hi : Is w p s F l) (h : At w v p a f) (hv : v ∉ F) (ha : a ≤ 5000) (hf : f ≤ 5000):
    Calls Try.prog 12 #[.pointer (some ⟨v, 0, none⟩)] w fun e w' => e = .returned (.tuple #[.int .i64 (cellOf l a), .bool (backOf l a), .int .i64 (errOf l a)]) ∧
      ∃ F', Is w' p s F' (next l a) ∧ At w' v p (atOf l a) (freedOf l a f) ∧ Ch [s, v] w w' ∧ ∀ b ∈ F', b ∈ F ∨ w.heap.size ≤ b := by
  have c0 := cell_at (i := 0) h
  have c1 := cell_at (i := 1) h
  have c2 := cell_at (i := 2) h
  have f0 := free_at (i := 0) h
  have f1 := free_at (i := 1) h
  simp only [List.getElem?_toArray, List.getElem?_cons_zero, List.getElem?_cons_succ] at c0 c1 c2
  have H := Lib.hid h
  have HD : ∀ n, Calls Try.prog 23 #[.pointer (some ⟨p, 0, none⟩), .int .i64 a] (w.drewN n) fun e w' => e = .returned (.tuple #[.int .u8 (headK l a), .int .u8 (headC l a), .int .i64 (headE l a)]) ∧ ∃ m, w' = w.drewN m := fun n =>
    (Head_any (w.drewN n) p s F l a (hi.ch ((Ch.refl [] w).drewN n) (by simp))).mono fun e w' ⟨h1, d, h2⟩ => ⟨h1, n + d, by rw [h2, World.drewN_drewN]⟩
  by_cases hl : a < l.length
  · have isa : isC l a = true := by simp [isC]; omega
    have e2 : headE l a = 0 ∧ headK l a = (l.getD a free).k ∧ headC l a = (l.getD a free).c := by simp only [headE, headK, headC, isa, if_true, get_nat, and_self]
    have ok : OkC (l.getD a free) := by
      obtain ⟨_, _, _, _, _, h⟩ := hi.slot a hl
      exact h
    have HI := Lib.hid hi
    rw [e2.1, e2.2.1, e2.2.2] at HD
    have hw : way l a = if (l.getD a free).k = 0 then 1 else if (l.getD a free).c = 1 then 0 else if (l.getD a free).c = 0 then 2 else 3 := by simp only [way, hl, if_true]
    have HX := Lib.hid (show next l a = if way l a = 2 then l.set a free else if way l a = 3 then l.set a { l.getD a free with c := 0 } else l from rfl)
    have HDr : ∀ wa, Is wa p s F l → Calls Try.prog 26 #[.pointer (some ⟨p, 0, none⟩), .int .i64 a] wa fun e w' => e = .returned (.int .i64 (dropE l a)) ∧ To wa w' p s F (drop l a) := fun wa h => Drop_any wa p s F l a h
    have HTu : ∀ wa, Is wa p s F l → Calls Try.prog 27 #[.pointer (some ⟨p, 0, none⟩), .int .i64 a, .int .u8 2, .int .u8 0] wa fun e w' => e = .returned (.bool (turnB l a 2 0)) ∧ To wa w' p s F (turn l a 2 0) := fun wa h => Turn_any wa p s F l a 2 0 h (by omega)
    have us : used l a = ((l.getD a free).k != 0) := by simp only [used, isa, Bool.true_and, get_nat]
    have gn : Cp.get l a = l.getD a free := get_nat l a
    clear h hi e2 isa
    generalize l.getD a free = x at *
    obtain ⟨k, c, xa, xb⟩ := x
    simp only at *
    by_cases hk : k = 0
    · have e : cellOf l a = a ∧ backOf l a = false ∧ errOf l a = 0 ∧ next l a = l ∧ atOf l a = a + 1 ∧ freedOf l a f = f := by
        have : way l a = 1 := by rw [hw]; simp [hk]
        simp [cellOf, backOf, errOf, next, atOf, freedOf, this]
      obtain ⟨r1, r2, r3, r4, r5, r6⟩ := e
      rw [r1, r2, r3, r4, r5, r6]
      subst hk
      clear r1 r2 r3 r4 r5 r6 hw HX ok us gn HDr HTu
      go_enter Try.func12, Try.ntmps12
      go_wp2_with fail
      go_quiet ((go_at_call 23; exact HD _))
      go_wp2_with fail
      go_ret3
      refine ⟨rfl, F, HI.out.ch (((Ch.refl [v] w).setCell _ _ (.inl (by simp))).drewN _) (by simp; exact fun b hb e => hv (e ▸ hb)), heap_set (i := 0) H.out _, ((Ch.refl [s, v] w).setCell _ _ (.inl (by simp))).drewN _, fun b hb => .inl hb⟩
    · by_cases hc1 : c = 1
      · have e : cellOf l a = 0 ∧ backOf l a = false ∧ errOf l a = 160 ∧ next l a = l ∧ atOf l a = a ∧ freedOf l a f = f := by
          have : way l a = 0 := by rw [hw]; simp [hk, hc1]
          simp [cellOf, backOf, errOf, next, atOf, freedOf, this]
        obtain ⟨r1, r2, r3, r4, r5, r6⟩ := e
        rw [r1, r2, r3, r4, r5, r6]
        subst hc1
        have hk' : (k == 0) = false := by simpa using hk
        clear r1 r2 r3 r4 r5 r6 hw HX ok us gn HDr HTu hk
        go_enter Try.func12, Try.ntmps12
        go_wp2_with fail
        go_quiet ((go_at_call 23; exact HD _))
        go_wp2_with fail
        go_ret3
        exact ⟨rfl, F, HI.out.ch ((Ch.refl [] w).drewN _) (by simp), H.out, (Ch.refl _ w).drewN _, fun b hb => .inl hb⟩
      · by_cases hc0 : c = 0
        · have e : cellOf l a = a ∧ backOf l a = true ∧ errOf l a = 0 ∧ next l a = l.set a free ∧ atOf l a = a + 1 ∧ freedOf l a f = f + 1 := by
            have : way l a = 2 := by rw [hw]; simp [hk, hc0]
            simp [cellOf, backOf, errOf, next, atOf, freedOf, this]
          have hdr : drop l a = l.set a free := by
            have : isC l a = true := by simp [isC]; omega
            have hkk : (k != 0) = true := by simpa using hk
            simp only [drop, dropE, this, us, hkk, if_true, Int.toNat_natCast]
          obtain ⟨r1, r2, r3, r4, r5, r6⟩ := e
          rw [r1, r2, r3, r4, r5, r6]
          rw [hdr] at HDr
          subst hc0
          have hk' : (k == 0) = false := by simpa using hk
          have HR := Lib.hid HDr
          clear r1 r2 r3 r4 r5 r6 hw HX ok us gn HDr HTu hk hdr hc1
          go_enter Try.func12, Try.ntmps12
          go_wp2_with fail
          go_quiet ((go_at_call 23; exact HD _))
          go_wp2_with fail
          have a0 : (w.drewN nq).cell? ⟨v, 0, none⟩ = some (.int .i64 a) := c0
          have a1 : (w.drewN nq).cell? ⟨v, 1, none⟩ = some (.int .i64 f) := c1
          have a2 : (w.drewN nq).cell? ⟨v, 2, none⟩ = some (.pointer (some ⟨p, 0, none⟩)) := c2
          have i1 := HI.out.ch ((Ch.refl [] w).drewN nq) (by simp)
          have hch := (Ch.refl [] w).drewN nq
          have hH := hch.heap H.out (by simp)
          have I1 := Lib.hid i1
          have HC := Lib.hid hch
          have HH := Lib.hid hH
          clear i1 hch hH c0 c1 c2 f0 f1
          generalize w.drewN nq = wa at *
          go_still_tail 9, (by kernel_rfl)
          change wpList _ _ _ _ _ wa.drew
          have d0 : wa.drew.cell? ⟨v, 0, none⟩ = some (.int .i64 a) := a0
          have d1 : wa.drew.cell? ⟨v, 1, none⟩ = some (.int .i64 f) := a1
          have i2 := I1.out.ch ((Ch.refl [] wa).drew) (by simp)
          have hch := HC.out.drew
          have hH := ((Ch.refl [] wa).drew).heap HH.out (by simp)
          have I2 := Lib.hid i2
          have HC2 := Lib.hid hch
          have HH2 := Lib.hid hH
          clear i2 hch hH a0 a1 a2 I1 HC HH
          generalize wa.drew = wb at *
          go_wp2_with fail
          refine (HR.out wb I2.out).mono ?_
          rintro e w2 ⟨rfl, F', j1, j2, j3⟩
          have hsv : v ≠ s := fun e => hv (e ▸ I2.out.sf)
          have hH := j2.heap HH2.out (by simpa using hsv)
          have hch := HC2.out.mono (T := [s]) (by simp) |>.trans' j2
          have hvF : ∀ b ∈ F', b ∉ [v] := fun b hb => by
            simp only [List.mem_singleton]
            intro e
            rcases j3 b hb with h' | h'
            · exact hv (e ▸ h')
            · have := lt_of HH2.out; omega
          have hfr : ∀ b ∈ F', b ∈ F ∨ w.heap.size ≤ b := fun b hb => (j3 b hb).imp id (Nat.le_trans HC2.out.size)
          have e0 := cell_at (i := 0) hH
          have e1 := cell_at (i := 1) hH
          have g0 := free_at (i := 0) hH
          have g1 := free_at (i := 1) hH
          simp only [List.getElem?_toArray, List.getElem?_cons_zero, List.getElem?_cons_succ] at e0 e1
          have J1 := Lib.hid j1
          have J3 := Lib.hid hfr
          have HV := Lib.hid hvF
          have HC3 := Lib.hid hch
          have HH3 := Lib.hid hH
          clear j1 j2 j3 hH hch hvF hfr HC2 HH2 I2 d0 d1 HR HD
          generalize dropE l a = de at *
          go_wp2_with fail
          go_ret3
          exact ⟨rfl, F', J1.out.ch (((Ch.refl [v] w2).setCell _ _ (.inl (by simp))).setCell _ _ (.inl (by simp))) HV.out, heap_set (i := 0) (heap_set (i := 1) HH3.out _) _, ((HC3.out.mono (T := [s, v]) (by simp)).setCell _ _ (.inl (by simp))).setCell _ _ (.inl (by simp)), J3.out⟩
        · have hc2' : c = 2 := by
            rcases ok with h | h
            · have := congrArg Cel.k h; simp [free] at this; exact absurd this hk
            · simp at h; omega
          have e : cellOf l a = a ∧ backOf l a = false ∧ errOf l a = 0 ∧ next l a = l.set a ⟨k, 0, xa, xb⟩ ∧ atOf l a = a + 1 ∧ freedOf l a f = f := by
            have h3 : way l a = 3 := by rw [hw]; simp [hk, hc1, hc0]
            refine ⟨by simp [cellOf, h3], by simp [backOf, h3], by simp [errOf, h3], by rw [HX.out, h3]; simp, by simp [atOf, h3], by simp [freedOf, h3]⟩
          have hdr : turn l a 2 0 = l.set a ⟨k, 0, xa, xb⟩ := by
            have hkk : (k != 0) = true := by simpa using hk
            simp only [turn, turnB, us, gn, hkk, hc2']
            simp
          obtain ⟨r1, r2, r3, r4, r5, r6⟩ := e
          rw [r1, r2, r3, r4, r5, r6]
          rw [hdr] at HTu
          subst hc2'
          have hk' : (k == 0) = false := by simpa using hk
          have HR := Lib.hid HTu
          clear r1 r2 r3 r4 r5 r6 hw HX ok us gn HDr HTu hk hdr hc1 hc0
          go_enter Try.func12, Try.ntmps12
          go_wp2_with fail
          go_quiet ((go_at_call 23; exact HD _))
          go_wp2_with fail
          have a0 : (w.drewN nq).cell? ⟨v, 0, none⟩ = some (.int .i64 a) := c0
          have a1 : (w.drewN nq).cell? ⟨v, 1, none⟩ = some (.int .i64 f) := c1
          have a2 : (w.drewN nq).cell? ⟨v, 2, none⟩ = some (.pointer (some ⟨p, 0, none⟩)) := c2
          have i1 := HI.out.ch ((Ch.refl [] w).drewN nq) (by simp)
          have hch := (Ch.refl [] w).drewN nq
          have hH := hch.heap H.out (by simp)
          have I1 := Lib.hid i1
          have HC := Lib.hid hch
          have HH := Lib.hid hH
          clear i1 hch hH c0 c1 c2 f0 f1
          generalize w.drewN nq = wa at *
          go_still_tail 9, (by kernel_rfl)
          change wpList _ _ _ _ _ wa.drew
          have d0 : wa.drew.cell? ⟨v, 0, none⟩ = some (.int .i64 a) := a0
          have d1 : wa.drew.cell? ⟨v, 1, none⟩ = some (.int .i64 f) := a1
          have i2 := I1.out.ch ((Ch.refl [] wa).drew) (by simp)
          have hch := HC.out.drew
          have hH := ((Ch.refl [] wa).drew).heap HH.out (by simp)
          have I2 := Lib.hid i2
          have HC2 := Lib.hid hch
          have HH2 := Lib.hid hH
          clear i2 hch hH a0 a1 a2 I1 HC HH
          generalize wa.drew = wb at *
          go_wp2_with fail
          refine (HR.out wb I2.out).mono ?_
          rintro e w2 ⟨rfl, F', j1, j2, j3⟩
          have hsv : v ≠ s := fun e => hv (e ▸ I2.out.sf)
          have hH := j2.heap HH2.out (by simpa using hsv)
          have hch := HC2.out.mono (T := [s]) (by simp) |>.trans' j2
          have hvF : ∀ b ∈ F', b ∉ [v] := fun b hb => by
            simp only [List.mem_singleton]
            intro e
            rcases j3 b hb with h' | h'
            · exact hv (e ▸ h')
            · have := lt_of HH2.out; omega
          have hfr : ∀ b ∈ F', b ∈ F ∨ w.heap.size ≤ b := fun b hb => (j3 b hb).imp id (Nat.le_trans HC2.out.size)
          have e0 := cell_at (i := 0) hH
          have e1 := cell_at (i := 1) hH
          have g0 := free_at (i := 0) hH
          have g1 := free_at (i := 1) hH
          simp only [List.getElem?_toArray, List.getElem?_cons_zero, List.getElem?_cons_succ] at e0 e1
          have J1 := Lib.hid j1
          have J3 := Lib.hid hfr
          have HV := Lib.hid hvF
          have HC3 := Lib.hid hch
          have HH3 := Lib.hid hH
          clear j1 j2 j3 hH hch hvF hfr HC2 HH2 I2 d0 d1 HR HD
          generalize turnB l a 2 0 = de at *
          go_wp2_with fail
          go_ret3
          exact ⟨rfl, F', J1.out.ch ((Ch.refl [v] w2).setCell _ _ (.inl (by simp))) HV.out, heap_set (i := 0) HH3.out _, (HC3.out.mono (T := [s, v]) (by simp)).setCell _ _ (.inl (by simp)), J3.out⟩
  · have e : cellOf l a = 0 ∧ backOf l a = false ∧ errOf l a = 160 ∧ next l a = l ∧ atOf l a = a ∧ freedOf l a f = f := by
      have : way l a = 0 := by simp [way, hl]
      simp [cellOf, backOf, errOf, next, atOf, freedOf, this]
    have e2 : headE l a = 1 := by simp [headE, isC, hl]
    rw [e2] at HD
    obtain ⟨r1, r2, r3, r4, r5, r6⟩ := e
    rw [r1, r2, r3, r4, r5, r6]
    have HI := Lib.hid hi
    clear r1 r2 r3 r4 r5 r6 h hi
    go_enter Try.func12, Try.ntmps12
    go_wp2_with fail
    go_quiet ((go_at_call 23; exact HD _))
    go_wp2_with fail
    go_ret3
    exact ⟨rfl, F, HI.out.ch ((Ch.refl [] w).drewN _) (by simp), H.out, (Ch.refl _ w).drewN _, fun b hb => .inl hb⟩
end Go.Proofs.Ytkcplmablelmbaa.Sw
