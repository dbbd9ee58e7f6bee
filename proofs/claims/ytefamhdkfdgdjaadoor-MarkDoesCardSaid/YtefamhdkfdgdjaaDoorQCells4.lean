/-
  THE WALKS of package cells, on: Shade, Snapshot.
-/
import Derived.Test.YtefamhdkfdgdjaaDoorQCells3
set_option linter.unusedVariables false
set_option linter.unusedSimpArgs false
set_option maxRecDepth 100000
namespace Go.Proofs.YtefamhdkfdgdjaaDoor.Cl
open Go.RowKit Go.Proofs.YtefamhdkfdgdjaaDoor.Hp Go.Proofs.YtefamhdkfdgdjaaDoor.Ato Go.Proofs.YtefamhdkfdgdjaaDoor.Cp

theorem Shade_any (w : World) (p s : Nat) (F : List Nat) (l : List Cel) (i : Int) (h : Is w p s F l) :
    Calls Tryd.prog 74 #[.pointer (some ⟨p, 0, none⟩), .int .i64 i] w fun e w' => e = .returned (.bool (turnB l i 0 1)) ∧ To w w' p s F (turn l i 0 1) := by
  have H := Turn_any w p s F l i 0 1 h (by omega)
  clear h
  go_enter Tryd.func74, Tryd.ntmps74
  go_wp2_with (go_at_call 37; refine H.mono ?_; rintro e w' ⟨rfl, hT⟩)
  go_ret
  exact ⟨rfl, hT⟩

/-- The cells of a row of cells. -/
def flat (l : List Cel) : List Value := l.flatMap fun x => (cel x).toList
theorem flat_cons (x : Cel) (l : List Cel) : flat (x :: l) = .int .u8 x.k :: .int .u8 x.c :: .int .u64 x.a :: .int .u64 x.b :: flat l := rfl
theorem flat_length : ∀ l : List Cel, (flat l).length = l.length * 4
  | [] => rfl
  | x :: l => by rw [flat_cons]; simp [flat_length l]; omega
theorem flat_get : ∀ (l : List Cel) (k t : Nat), k < l.length → t < 4 → (flat l)[k * 4 + t]? = (cel (l.getD k free)).toList[t]?
  | [], k, t, h, _ => absurd h (by simp)
  | x :: l, 0, t, _, ht => by
    rw [flat_cons]
    rcases t with _ | _ | _ | _ | t
    · rfl
    · rfl
    · rfl
    · rfl
    · omega
  | x :: l, k + 1, t, h, ht => by
    rw [flat_cons, show (k + 1) * 4 + t = k * 4 + t + 4 by omega]
    simp only [List.getElem?_cons_succ]
    rw [flat_get l k t (by simpa using h) ht]
    simp [List.getD]
theorem flat_set : ∀ (l : List Cel) (k : Nat) (x : Cel), k < l.length → ((((flat l).set (k * 4) (.int .u8 x.k)).set (k * 4 + 1) (.int .u8 x.c)).set (k * 4 + 2) (.int .u64 x.a)).set (k * 4 + 3) (.int .u64 x.b) = flat (l.set k x)
  | [], k, _, h => absurd h (by simp)
  | y :: l, 0, x, _ => by simp [flat_cons]
  | y :: l, k + 1, x, h => by
    rw [flat_cons, List.set_cons_succ, flat_cons, ← flat_set l k x (by simpa using h)]
    simp [show (k + 1) * 4 = k * 4 + 4 by omega]

theorem infoCell : (Tryd.prog.info? 86).map (fun i => (i.zero, i.size, i.bytes)) = some (some (.agg #[.int .u8 0, .int .u8 0, .int .u64 0, .int .u64 0]), 4, 24) := by kernel_rfl
theorem made_flat (n : Nat) : madeCells #[.int .u8 0, .int .u8 0, .int .u64 0, .int .u64 0] (n * 4) = (flat (List.replicate n free)).toArray := by
  apply Array.ext
  · simp [madeCells, flat_length]
  · intro i h1 h2
    have hi : i < n * 4 := by simpa [madeCells] using h1
    have hg := flat_get (List.replicate n free) (i / 4) (i % 4) (by simp; omega) (Nat.mod_lt _ (by omega))
    rw [show i / 4 * 4 + i % 4 = i by omega] at hg
    have hlt4 : i / 4 < n := by omega
    have hr : (List.replicate n free).getD (i / 4) free = free := by simp [List.getD, hlt4]
    rw [hr] at hg
    have e1 : (flat (List.replicate n free)).toArray[i] = (flat (List.replicate n free))[i]'(by simpa using h2) := by simp
    rw [e1]
    have e2 : (madeCells #[.int .u8 0, .int .u8 0, .int .u64 0, .int .u64 0] (n * 4))[i] = (#[.int .u8 0, .int .u8 0, .int .u64 0, .int .u64 0] : Array Value)[i % 4]! := by simp [madeCells]
    rw [e2]
    rw [List.getElem?_eq_getElem (by simpa using h2)] at hg
    have hm : i % 4 < 4 := Nat.mod_lt _ (by omega)
    generalize i % 4 = m at *
    rcases m with _ | _ | _ | _ | m
    all_goals first | (exfalso; omega) | exact (Option.some.inj hg).symm
theorem run_make_cells (w : World) (n : Nat) (h : n ≤ 4096) : (Instr.makeSlice 23 (.int .i64 (n : Int)) (.int .i64 (n : Int))).run Tryd.prog w = .ok (.slice (some ⟨w.heap.size, 0, none⟩) n n) (w.alloc (.cells (flat (List.replicate n free)).toArray 86)) := by
  obtain ⟨i, hi, he⟩ := Option.map_eq_some_iff.1 infoCell
  simp only [Prod.mk.injEq] at he
  obtain ⟨e1, e2, e3⟩ := he
  have := run_make (P := Tryd.prog) w 23 86 i _ Tryd.underlying23 hi e1 .i64 .i64 n n (by omega) (by omega) (by rw [e3]; omega) (by omega)
  rw [this, e2]
  have e4 : (Value.agg #[.int .u8 0, .int .u8 0, .int .u64 0, .int .u64 0]).cells = #[.int .u8 0, .int .u8 0, .int .u64 0, .int .u64 0] := rfl
  simp only [Int.toNat_natCast]
  rw [e4, made_flat]

/-- So far the snapshot has come. -/
def upTo (l : List Cel) (k : Nat) : List Cel := l.take k ++ List.replicate (l.length - k) free
theorem upTo_length (l : List Cel) (k : Nat) : (upTo l k).length = l.length := by simp [upTo]; omega
theorem upTo_step (l : List Cel) (k : Nat) (hk : k < l.length) : (upTo l k).set k (l.getD k free) = upTo l (k + 1) := by
  unfold upTo
  rw [List.set_append_right _ _ (by simp; omega), show k - (l.take k).length = 0 by simp; omega, show l.length - k = (l.length - (k + 1)) + 1 by omega, List.replicate_succ, List.set_cons_zero]
  rw [show List.take (k + 1) l = List.take k l ++ [l[k]] by simp]
  simp only [List.append_assoc, List.cons_append, List.nil_append]
  rw [show l.getD k free = l[k] by simp [List.getD, hk]]
theorem upTo_free (l : List Cel) (k : Nat) (hk : k < l.length) (h0 : l.getD k free = free) : upTo l k = upTo l (k + 1) := by
  rw [← upTo_step l k hk, h0]
  have h : (upTo l k)[k]'(by rw [upTo_length]; exact hk) = free := by
    unfold upTo
    rw [List.getElem_append_right (by simp; omega)]
    simp
  have hl : k < (upTo l k).length := by rw [upTo_length]; exact hk
  apply List.ext_getElem?
  intro i
  by_cases e : k = i
  · subst e; rw [List.getElem?_set_self hl, List.getElem?_eq_getElem hl, h]
  · rw [List.getElem?_set_ne e]

theorem Snapshot_any (w : World) (p s : Nat) (F : List Nat) (l : List Cel) (h : Is w p s F l) :
    Calls Tryd.prog 44 #[.pointer (some ⟨p, 0, none⟩)] w fun e w' => e = .returned (.slice (some ⟨w.heap.size, 0, none⟩) l.length l.length) ∧ w'.heap[w.heap.size]? = some (.cells (flat l).toArray 86 (0, 0)) ∧ Ch [] w w' := by
  have ln := h.len
  have hc := cell_at (i := 0) h.hp
  simp only [List.getElem?_toArray, List.getElem?_cons_zero] at hc
  have hmk : ∀ w : World, _ := fun w => run_make_cells w l.length ln.2
  have HI := Lib.hid h
  have HW : upTo l 0 = List.replicate l.length free := by simp [upTo]
  have HE : upTo l l.length = l := by simp [upTo]
  have HL := Lib.hid (upTo_length l)
  have HS := Lib.hid (upTo_step l)
  have HF := Lib.hid (upTo_free l)
  have HX := Lib.hid HE
  rw [← HW] at hmk
  have HO := Lib.hid hc
  clear h HW HE
  generalize hn : l.length = n at *
  have HN := Lib.hid hn
  clear hn
  have hc2 := ((Ch.refl [] w).alloc (.cells (flat (upTo l 0)).toArray 86)).cell hc (by simp)
  go_enter Tryd.func44, Tryd.ntmps44
  go_wp2_with fail
  generalize hw1 : w.alloc (.cells (flat (upTo l 0)).toArray 86) = w1 at *
  go_loopw [17] (fun i wr => ∃ k : Nat, k ≤ n ∧ i = .int .i64 k ∧ Ch [] w wr ∧ wr.heap[w.heap.size]? = some (.cells (flat (upTo l k)).toArray 86 (0, 0))) (fun i _ => n - (intOf i).toNat)
  case atStart => subst hw1; exact ⟨0, by omega, rfl, (Ch.refl _ _).alloc _, heap_new w _⟩
  case round =>
    obtain ⟨k, hk, rfl, hch, ho⟩ := hrel
    have HC := Lib.hid hch
    have HH := Lib.hid ho
    clear hw1
    by_cases hlt : k < n
    · have hI := HI.out.ch hch (by simp)
      obtain ⟨po, o1, o2, o3, o4, o5⟩ := hI.slot k (by rw [HN.out]; exact hlt)
      rw [HN.out] at o1
      have L1 := Load_any wr s k po o2 o4.slot
      have lk : k < (upTo l k).length := by rw [HL.out]; exact hlt
      have q0 : (flat (upTo l k)).length = n * 4 := by rw [flat_length, HL.out]
      have fr : ∀ t, wr.frozen? ⟨w.heap.size, t, none⟩ = false := fun t => free_at ho
      have cc : ∀ t, t < n * 4 → ∃ v, wr.cell? ⟨w.heap.size, t, none⟩ = some v := fun t ht => ⟨_, (cell_at ho).trans (by simp [q0, ht]; rfl)⟩
      obtain ⟨v0, c0⟩ := cc (k * 4) (by omega)
      obtain ⟨v1, c1⟩ := cc (k * 4 + 1) (by omega)
      obtain ⟨v2, c2⟩ := cc (k * 4 + 2) (by omega)
      obtain ⟨v3, c3⟩ := cc (k * 4 + 3) (by omega)
      have f0 := fr (k * 4)
      have f1 := fr (k * 4 + 1)
      have f2 := fr (k * 4 + 2)
      have f3 := fr (k * 4 + 3)
      rcases o4 with ⟨o4, rfl⟩ | ⟨hne, bb, hbb, rfl, hh⟩
      · clear hI o5 ho hch o3 cc fr c0 c1 c2 c3 f0 f1 f2 f3 q0 lk
        have H4 := Lib.hid o4
        clear o4
        go_wp2_with (go_at_call 70; refine L1.mono ?_; rintro e w' ⟨rfl, rfl⟩)
        go_roundw
        case rel => exact ⟨k + 1, by omega, by go_num, HC.out, by rw [← HF.out k hlt H4.out]; exact HH.out⟩
        case measure => simp [intOf]; omega
      · have k0 := cell_at (i := 0) hh
        have k1 := cell_at (i := 1) hh
        have k2 := cell_at (i := 2) hh
        have k3 := cell_at (i := 3) hh
        simp only [cel, List.getElem?_toArray, List.getElem?_cons_zero, List.getElem?_cons_succ] at k0 k1 k2 k3
        clear hI o5 ho hch o3 cc fr hbb hne hh
        generalize hx : l.getD k free = x at *
        have HX2 := Lib.hid hx
        clear hx
        go_wp2_with (go_at_call 70; refine L1.mono ?_; rintro e w' ⟨rfl, rfl⟩)
        go_roundw
        case rel =>
          refine ⟨k + 1, by omega, by go_num, (((HC.out.setCell _ _ (.inr (Nat.le_refl _))).setCell _ _ (.inr (Nat.le_refl _))).setCell _ _ (.inr (Nat.le_refl _))).setCell _ _ (.inr (Nat.le_refl _)), ?_⟩
          have hs := heap_set (i := k * 4 + 3) (heap_set (i := k * 4 + 2) (heap_set (i := k * 4 + 1) (heap_set (i := k * 4) HH.out (.int .u8 x.k)) (.int .u8 x.c)) (.int .u64 x.a)) (.int .u64 x.b)
          rw [hs]
          simp only [List.setIfInBounds_toArray]
          rw [flat_set _ _ _ lk, ← HX2.out, HS.out k hlt]
        case measure => simp [intOf]; omega
    · obtain rfl : k = n := by omega
      have HC := Lib.hid hch
      clear hch ho
      go_wp2_with fail
      go_ret
      exact ⟨rfl, by have := HH.out; rw [HX.out] at this; exact this, HC.out⟩
end Go.Proofs.YtefamhdkfdgdjaaDoor.Cl
