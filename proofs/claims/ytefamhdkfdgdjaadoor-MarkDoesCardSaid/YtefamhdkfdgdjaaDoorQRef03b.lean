/-
  THE WALKS of dappleref03's heap of cells, on: Turn, Shade, Make, Drop, Swap, New.
-/
import Derived.Test.YtefamhdkfdgdjaaDoorQRef03
import Derived.Test.YtefamhdkfdgdjaaDoorQCells4
set_option linter.unusedVariables false
set_option linter.unusedSimpArgs false
set_option maxRecDepth 100000
namespace Go.Proofs.YtefamhdkfdgdjaaDoor.R03
open Go.RowKit Go.Proofs.YtefamhdkfdgdjaaDoor.Hp Go.Proofs.YtefamhdkfdgdjaaDoor.Cp Go.Proofs.YtefamhdkfdgdjaaDoor.Cl Go.Proofs.YtefamhdkfdgdjaaDoor.Mk
theorem used_no {l : List Cel} {i : Int} (h : used l i = false) (fr to : Int) : turnB l i fr to = false ∧ turn l i fr to = l := by
  have : turnB l i fr to = false := by unfold turnB; rw [h]; rfl
  exact ⟨this, by unfold turn; rw [this]; rfl⟩
theorem used_nat {l : List Cel} {i : Int} (h : used l i = true) : ∃ n : Nat, i = n ∧ n < l.length := by
  unfold used at h
  rw [Bool.and_eq_true] at h
  obtain ⟨n, e, hn⟩ := isC_nat h.1
  exact ⟨n, e, hn⟩
theorem Turn_any (w : World) (rp rb : Nat) (l : List Cel) (i fr to : Int) (h : RH w rp rb l) :
    Calls Tryd.prog 38 #[.pointer (some ⟨rp, 0, none⟩), .int .i64 i, .int .u8 fr, .int .u8 to] w fun e w' => e = .returned (.bool (turnB l i fr to)) ∧ RH w' rp rb (turn l i fr to) ∧ Ch [rb] w w' := by
  have H := used_any w rp rb l i h
  have p0 := cell_at (i := 0) h.hd
  simp only [List.getElem?_toArray, List.getElem?_cons_zero] at p0
  have HH := Lib.hid h
  cases hu : used l i
  · obtain ⟨e1, e2⟩ := used_no hu fr to
    rw [e1, e2]
    rw [hu] at H
    clear h e1 e2 hu
    obtain ⟨m, hm⟩ : ∃ m, m = l.length := ⟨_, rfl⟩
    rw [← hm] at p0
    clear hm
    go_enter Tryd.func38, Tryd.ntmps38
    go_wp2_with fail
    refine H.mono ?_
    rintro e w2 ⟨rfl, rfl⟩
    go_wp2_with fail
    go_ret
    exact ⟨rfl, HH.out, Ch.refl _ _⟩
  · obtain ⟨n, rfl, hn⟩ := used_nat hu
    rw [hu] at H
    obtain ⟨_, c1, _, _⟩ := h.at_ n hn
    have f1 := h.free_ (n * 4 + 1)
    have ltI : (n : Int) < l.length := by omega
    have hT : turnB l n fr to = (((l.getD n free).c == fr) && decide (to ≤ 2)) := by unfold turnB; rw [hu, get_nat]; rfl
    have hS := HH.out.store (t0 := 1) (x := { l.getD n free with c := to }) (v := .int .u8 to) hn (by omega) (fun t ht => by
      rcases (show t = 0 ∨ t = 1 ∨ t = 2 ∨ t = 3 by omega) with rfl | rfl | rfl | rfl <;> rfl)
    have HT : Hid (turnB l n fr to = true → turn l n fr to = l.set n { l.getD n free with c := to }) := Lib.hid (fun e => by unfold turn; rw [if_pos e, get_nat]; rfl)
    have HF : Hid (turnB l n fr to = false → turn l n fr to = l) := Lib.hid (fun e => by unfold turn; rw [e]; rfl)
    have HS := Lib.hid hS
    obtain ⟨k, hk⟩ : ∃ k, k = (l.getD n free).c := ⟨_, rfl⟩
    rw [← hk] at c1 hT
    obtain ⟨m, hm⟩ : ∃ m, m = l.length := ⟨_, rfl⟩
    rw [← hm] at p0 ltI
    clear h hu hn hS hk hm
    by_cases hc : k = fr
    · subst hc
      by_cases ht : to ≤ 2
      · have e : turnB l n k to = true := by rw [hT]; simp [ht]
        rw [e]
        have HE := HT.out e
        have ht' : ¬ 2 < to := by omega
        rw [HE]
        clear hT e HE HF HT
        go_enter Tryd.func38, Tryd.ntmps38
        go_wp2_with fail
        refine H.mono ?_
        rintro e w2 ⟨rfl, rfl⟩
        go_wp2_with fail
        go_ret
        exact ⟨rfl, HS.out.1, HS.out.2⟩
      · have e : turnB l n k to = false := by rw [hT]; simp [ht]
        rw [e]
        have HE := HF.out e
        have ht' : 2 < to := by omega
        rw [HE]
        clear hT e HE HF HT HS
        go_enter Tryd.func38, Tryd.ntmps38
        go_wp2_with fail
        refine H.mono ?_
        rintro e w2 ⟨rfl, rfl⟩
        go_wp2_with fail
        go_ret
        exact ⟨rfl, HH.out, Ch.refl _ _⟩
    · have e : turnB l n fr to = false := by rw [hT]; simp [hc]
      rw [e]
      have HE := HF.out e
      have hc' : (k != fr) = true := bne_iff_ne.2 hc
      rw [HE]
      clear hT e HE HF HT HS hc
      go_enter Tryd.func38, Tryd.ntmps38
      go_wp2_with fail
      refine H.mono ?_
      rintro e w2 ⟨rfl, rfl⟩
      go_wp2_with fail
      go_ret
      exact ⟨rfl, HH.out, Ch.refl _ _⟩
theorem Shade_any (w : World) (rp rb : Nat) (l : List Cel) (i : Int) (h : RH w rp rb l) :
    Calls Tryd.prog 75 #[.pointer (some ⟨rp, 0, none⟩), .int .i64 i] w fun e w' => e = .returned (.bool (turnB l i 0 1)) ∧ RH w' rp rb (turn l i 0 1) ∧ Ch [rb] w w' := by
  have H := Turn_any w rp rb l i 0 1 h
  clear h
  go_enter Tryd.func75, Tryd.ntmps75
  go_wp2_with fail
  refine H.mono ?_
  rintro e w2 ⟨rfl, h1, h2⟩
  go_wp2_with fail
  go_ret
  exact ⟨rfl, h1, h2⟩
theorem Make_any (w : World) (rp rb : Nat) (l : List Cel) (i k c a b : Int) (h : RH w rp rb l) :
    Calls Tryd.prog 24 #[.pointer (some ⟨rp, 0, none⟩), .int .i64 i, .int .u8 k, .int .u8 c, .int .u64 a, .int .u64 b] w fun e w' => e = .returned (.int .i64 (makeE l i k c)) ∧ RH w' rp rb (make l i k c a b) ∧ Ch [rb] w w' := by
  have H := is_any w rp rb l i h
  have p0 := cell_at (i := 0) h.hd
  simp only [List.getElem?_toArray, List.getElem?_cons_zero] at p0
  have HH := Lib.hid h
  cases hi : isC l i
  · have e : makeE l i k c = 1 ∧ make l i k c a b = l := by simp [make, makeE, hi]
    rw [e.1, e.2]
    rw [hi] at H
    clear h e hi
    obtain ⟨m, hm⟩ : ∃ m, m = l.length := ⟨_, rfl⟩
    rw [← hm] at p0
    clear hm
    go_enter Tryd.func24, Tryd.ntmps24
    go_wp2_with fail
    refine H.mono ?_
    rintro e w2 ⟨rfl, rfl⟩
    go_wp2_with fail
    go_ret
    exact ⟨rfl, HH.out, Ch.refl _ _⟩
  · obtain ⟨n, rfl, hn⟩ := isC_nat hi
    have hii := hi
    rw [hi] at H
    obtain ⟨c0, c1, c2, c3⟩ := h.at_ n hn
    have f0 := h.free_ (n * 4)
    have f1 := h.free_ (n * 4 + 1)
    have f2 := h.free_ (n * 4 + 2)
    have f3 := h.free_ (n * 4 + 3)
    have ltI : (n : Int) < l.length := by omega
    have HS := Lib.hid (HH.out.store4 hn ⟨k, c, a, b⟩)
    have hu := used_eq hn
    obtain ⟨m, hm⟩ : ∃ m, m = l.length := ⟨_, rfl⟩
    rw [← hm] at p0 ltI
    by_cases hf : k < 1 ∨ 3 < k ∨ 2 < c
    · have e : makeE l n k c = 30 ∧ make l n k c a b = l := by simp only [make, makeE, hii, if_true, hf]; simp
      rw [e.1, e.2]
      clear h hi hii e hn hm hu HS c0 c1 c2 c3 f0 f1 f2 f3
      by_cases k1 : k < 1
      · clear hf
        go_enter Tryd.func24, Tryd.ntmps24
        go_wp2_with fail
        refine H.mono ?_
        rintro e w2 ⟨rfl, rfl⟩
        go_wp2_with fail
        go_ret
        exact ⟨rfl, HH.out, Ch.refl _ _⟩
      · by_cases k3 : 3 < k
        · clear hf
          go_enter Tryd.func24, Tryd.ntmps24
          go_wp2_with fail
          refine H.mono ?_
          rintro e w2 ⟨rfl, rfl⟩
          go_wp2_with fail
          go_ret
          exact ⟨rfl, HH.out, Ch.refl _ _⟩
        · have c2 : 2 < c := by omega
          clear hf
          go_enter Tryd.func24, Tryd.ntmps24
          go_wp2_with fail
          refine H.mono ?_
          rintro e w2 ⟨rfl, rfl⟩
          go_wp2_with fail
          go_ret
          exact ⟨rfl, HH.out, Ch.refl _ _⟩
    · have h1 : ¬ k < 1 := by omega
      have h2 : ¬ 3 < k := by omega
      have h3 : ¬ 2 < c := by omega
      by_cases hk : (l.getD n free).k = 0
      · have u : used l n = false := by rw [hu, hk]; rfl
        have e : makeE l n k c = 0 ∧ make l n k c a b = l.set n ⟨k, c, a, b⟩ := by simp only [make, makeE, hii, if_true, u, hf, if_false]; simp
        rw [e.1, e.2]
        rw [hk] at c0
        obtain ⟨y, hy⟩ : ∃ y, y = l.getD n free := ⟨_, rfl⟩
        rw [← hy] at c1 c2 c3
        clear h hi hii e hn hm hu u hk hf hy
        go_enter Tryd.func24, Tryd.ntmps24
        go_wp2_with fail
        refine H.mono ?_
        rintro e w2 ⟨rfl, rfl⟩
        go_wp2_with fail
        go_ret
        exact ⟨rfl, HS.out.1, HS.out.2⟩
      · have u : used l n = true := by rw [hu]; exact bne_iff_ne.2 hk
        have e : makeE l n k c = 31 ∧ make l n k c a b = l := by simp only [make, makeE, hii, if_true, u, hf, if_false]; simp
        rw [e.1, e.2]
        have hk' : ((l.getD n free).k != 0) = true := bne_iff_ne.2 hk
        obtain ⟨y, hy⟩ : ∃ y, y = (l.getD n free).k := ⟨_, rfl⟩
        rw [← hy] at c0 hk'
        clear h hi hii e hn hm hu u hk hf hy HS c1 c2 c3 f0 f1 f2 f3
        go_enter Tryd.func24, Tryd.ntmps24
        go_wp2_with fail
        refine H.mono ?_
        rintro e w2 ⟨rfl, rfl⟩
        go_wp2_with fail
        go_ret
        exact ⟨rfl, HH.out, Ch.refl _ _⟩
theorem Drop_any (w : World) (rp rb : Nat) (l : List Cel) (i : Int) (h : RH w rp rb l) :
    Calls Tryd.prog 40 #[.pointer (some ⟨rp, 0, none⟩), .int .i64 i] w fun e w' => e = .returned (.int .i64 (dropE l i)) ∧ RH w' rp rb (drop l i) ∧ Ch [rb] w w' := by
  have H := is_any w rp rb l i h
  have p0 := cell_at (i := 0) h.hd
  simp only [List.getElem?_toArray, List.getElem?_cons_zero] at p0
  have HH := Lib.hid h
  cases hi : isC l i
  · have e : dropE l i = 1 ∧ drop l i = l := by simp [drop, dropE, hi]
    rw [e.1, e.2]
    rw [hi] at H
    clear h e hi
    obtain ⟨m, hm⟩ : ∃ m, m = l.length := ⟨_, rfl⟩
    rw [← hm] at p0
    clear hm
    go_enter Tryd.func40, Tryd.ntmps40
    go_wp2_with fail
    refine H.mono ?_
    rintro e w2 ⟨rfl, rfl⟩
    go_wp2_with fail
    go_ret
    exact ⟨rfl, HH.out, Ch.refl _ _⟩
  · obtain ⟨n, rfl, hn⟩ := isC_nat hi
    have hii := hi
    rw [hi] at H
    obtain ⟨c0, c1, c2, c3⟩ := h.at_ n hn
    have f0 := h.free_ (n * 4)
    have f1 := h.free_ (n * 4 + 1)
    have f2 := h.free_ (n * 4 + 2)
    have f3 := h.free_ (n * 4 + 3)
    have ltI : (n : Int) < l.length := by omega
    have HS := Lib.hid (HH.out.store4 hn free)
    have hu := used_eq hn
    obtain ⟨m, hm⟩ : ∃ m, m = l.length := ⟨_, rfl⟩
    rw [← hm] at p0 ltI
    by_cases hk : (l.getD n free).k = 0
    · have u : used l n = false := by rw [hu, hk]; rfl
      have e : dropE l n = 31 ∧ drop l n = l := by simp only [drop, dropE, hii, if_true, u]; simp
      rw [e.1, e.2]
      rw [hk] at c0
      clear h hi hii e hn hm hu u hk HS c1 c2 c3 f0 f1 f2 f3
      go_enter Tryd.func40, Tryd.ntmps40
      go_wp2_with fail
      refine H.mono ?_
      rintro e w2 ⟨rfl, rfl⟩
      go_wp2_with fail
      go_ret
      exact ⟨rfl, HH.out, Ch.refl _ _⟩
    · have u : used l n = true := by rw [hu]; exact bne_iff_ne.2 hk
      have e : dropE l n = 0 ∧ drop l n = l.set n free := by simp only [drop, dropE, hii, if_true, u]; simp
      rw [e.1, e.2]
      have hk' : ((l.getD n free).k == 0) = false := beq_eq_false_iff_ne.2 hk
      obtain ⟨y, hy⟩ : ∃ y, y = l.getD n free := ⟨_, rfl⟩
      rw [← hy] at c0 c1 c2 c3 hk'
      unfold free at HS
      simp only at HS
      clear h hi hii e hn hm hu u hk hy
      go_enter Tryd.func40, Tryd.ntmps40
      go_wp2_with fail
      refine H.mono ?_
      rintro e w2 ⟨rfl, rfl⟩
      go_wp2_with fail
      go_ret
      exact ⟨rfl, HS.out.1, HS.out.2⟩
/-- A word is laid into the first field. -/
def swap0 (l : List Cel) (i x : Int) : List Cel := if loadE l i 0 = 0 then l.set i.toNat { Cp.get l i with a := x } else l
theorem Swap_any (w : World) (rp rb : Nat) (l : List Cel) (i x : Int) (h : RH w rp rb l) :
    Calls Tryd.prog 42 #[.pointer (some ⟨rp, 0, none⟩), .int .i64 i, .int .i64 0, .int .u64 x] w fun e w' => (∃ y z : Int, e = .returned (.tuple #[.int .u64 y, .int .i64 z])) ∧ RH w' rp rb (swap0 l i x) ∧ Ch [rb] w w' := by
  have H := field0_any w rp rb l i h
  have HH := Lib.hid h
  have HN : Hid (loadE l i 0 ≠ 0 → swap0 l i x = l) := Lib.hid (fun e => by unfold swap0; rw [if_neg e])
  have HY : Hid (∀ n : Nat, i = n → loadE l i 0 = 0 → swap0 l i x = l.set n { l.getD n free with a := x }) := Lib.hid (fun n hn e => by unfold swap0; rw [if_pos e, hn, get_nat]; rfl)
  clear h
  generalize swap0 l i x = l' at *
  generalize loadE l i 0 = le at *
  go_enter Tryd.func42, Tryd.ntmps42
  go_wp2_with fail
  refine H.mono ?_
  rintro e w2 ⟨rfl, ⟨hne, rfl⟩ | ⟨n, h0, rfl, hn, hk, rfl⟩⟩
  · have hne' : (le != 0) = true := bne_iff_ne.2 hne
    have hl := HN.out hne
    subst hl
    clear H hne
    go_wp2_with fail
    go_ret2
    exact ⟨⟨_, _, rfl⟩, HH.out, Ch.refl _ _⟩
  · have hl := HY.out n rfl h0
    subst h0
    subst hl
    obtain ⟨_, _, c2, _⟩ := HH.out.at_ n hn
    have f2 := HH.out.free_ (n * 4 + 2)
    have HS := Lib.hid (HH.out.store (t0 := 2) (x := { l.getD n free with a := x }) (v := .int .u64 x) hn (by omega) (fun t ht => by
      rcases (show t = 0 ∨ t = 1 ∨ t = 2 ∨ t = 3 by omega) with rfl | rfl | rfl | rfl <;> rfl))
    obtain ⟨y, hy⟩ : ∃ y, y = (l.getD n free).a := ⟨_, rfl⟩
    rw [← hy] at c2
    clear H hn hk hy
    go_wp2_with fail
    go_ret2
    exact ⟨⟨_, _, rfl⟩, HS.out.1, HS.out.2⟩
theorem New_any (w : World) (n : Nat) (h4 : 4 ≤ n) (h4096 : n ≤ 4096) :
    Calls Tryd.prog 23 #[.int .i64 n] w fun e w' => ∃ rp rb, e = .returned (.tuple #[.pointer (some ⟨rp, 0, none⟩), .int .i64 0]) ∧ RH w' rp rb (List.replicate n free) ∧ Ch [] w w' ∧ w.heap.size ≤ rp ∧ w.heap.size ≤ rb := by
  have hmk := run_make_cells w n h4096
  have l1 : ¬ (n : Int) < 4 := by omega
  have l2 : ¬ (4096 : Int) < n := by omega
  have Z : Hid (∀ W, W = (w.alloc (.cells (Cl.flat (List.replicate n free)).toArray 86)).alloc (.cells #[.slice (some ⟨w.heap.size, 0, none⟩) n n] 103) → RH W (w.heap.size + 1) w.heap.size (List.replicate n free) ∧ Ch [] w W) := Lib.hid (fun W hW => by
    subst hW
    have h1 := heap_new (w.alloc (.cells (Cl.flat (List.replicate n free)).toArray 86)) (.cells #[.slice (some ⟨w.heap.size, 0, none⟩) n n] 103)
    refine ⟨⟨by simp only [List.length_replicate]; simpa using h1, heap_old (heap_new _ _), by omega, by simpa using h4096⟩, ((Ch.refl _ _).alloc _).alloc _⟩)
  clear h4 h4096
  go_enter Tryd.func23, Tryd.ntmps23
  go_wp2_with fail
  go_ret2
  obtain ⟨z1, z2⟩ := Z.out _ rfl
  first | exact ⟨w.heap.size + 1, w.heap.size, rfl, z1, z2, by omega, by omega⟩ | exact ⟨w.heap.size + 1, rfl, w.heap.size, z1, z2, by omega, by omega⟩
end Go.Proofs.YtefamhdkfdgdjaaDoor.R03
