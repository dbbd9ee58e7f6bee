/-
  THE WALKS of package sweep, on: At, Freed, Done; and dapplelaw16.heap.
-/
import Derived.Test.YtkcplmablelmbaaSweep
set_option linter.unusedVariables false
set_option linter.unusedSimpArgs false
set_option maxRecDepth 100000
namespace Go.Proofs.Ytkcplmablelmbaa.Sw
open Go.RowKit Go.Proofs.Ytkcplmablelmbaa.Hp Go.Proofs.Ytkcplmablelmbaa.Ato Go.Proofs.Ytkcplmablelmbaa.Cp Go.Proofs.Ytkcplmablelmbaa.Cl

theorem At_any (w : World) (v p a f : Nat) (h : At w v p a f) :
    Calls Try.prog 16 #[.pointer (some ⟨v, 0, none⟩)] w fun e w' => e = .returned (.int .i64 a) ∧ w = w' := by
  have c0 := cell_at (i := 0) h
  simp only [List.getElem?_toArray, List.getElem?_cons_zero, List.getElem?_cons_succ] at c0
  clear h
  go_enter Try.func16, Try.ntmps16
  go_wp2
  go_ret
  exact ⟨rfl, rfl⟩
theorem Freed_any (w : World) (v p a f : Nat) (h : At w v p a f) :
    Calls Try.prog 14 #[.pointer (some ⟨v, 0, none⟩)] w fun e w' => e = .returned (.int .i64 f) ∧ w = w' := by
  have c0 := cell_at (i := 1) h
  simp only [List.getElem?_toArray, List.getElem?_cons_zero, List.getElem?_cons_succ] at c0
  clear h
  go_enter Try.func14, Try.ntmps14
  go_wp2
  go_ret
  exact ⟨rfl, rfl⟩
theorem Done_any (w : World) (v p s a f : Nat) (F : List Nat) (l : List Cel) (hi : Is w p s F l) (h : At w v p a f) :
    Calls Try.prog 11 #[.pointer (some ⟨v, 0, none⟩)] w fun e w' => e = .returned (.bool (decide (l.length ≤ a))) ∧ ∃ d, w' = w.drewN d := by
  have c0 := cell_at (i := 0) h
  have c2 := cell_at (i := 2) h
  simp only [List.getElem?_toArray, List.getElem?_cons_zero, List.getElem?_cons_succ] at c0 c2
  have HA : ∀ n, Calls Try.prog 16 #[.pointer (some ⟨v, 0, none⟩)] (w.drewN n) fun e w' => e = .returned (.int .i64 a) ∧ ∃ m, w' = w.drewN m := fun n =>
    (At_any (w.drewN n) v p a f h).mono fun e w' ⟨h1, h2⟩ => ⟨h1, n, h2.symm⟩
  have HL : ∀ n, Calls Try.prog 25 #[.pointer (some ⟨p, 0, none⟩)] (w.drewN n) fun e w' => e = .returned (.int .i64 l.length) ∧ ∃ m, w' = w.drewN m := fun n =>
    (Len_any (w.drewN n) p s F l (hi.ch ((Ch.refl [] w).drewN n) (by simp))).mono fun e w' ⟨h1, h2⟩ => ⟨h1, n, h2.symm⟩
  clear h hi
  generalize l.length = n at *
  go_enter Try.func11, Try.ntmps11
  go_wp2_with fail
  go_quiet (first | (go_at_call 16; exact HA _) | (go_at_call 25; exact HL _))
  go_wp2_with fail
  go_ret
  exact ⟨rfl, _, rfl⟩

/-- What a cell becomes that a heap is to hold: what may not be is free. -/
def norm (x : Cel) : Cel := if x.k < 1 ∨ 3 < x.k ∨ 2 < x.c then free else x
/-- A cell whose words fit. -/
def InR (x : Cel) : Prop := 0 ≤ x.k ∧ x.k < 256 ∧ 0 ≤ x.c ∧ x.c < 256 ∧ 0 ≤ x.a ∧ x.a < 18446744073709551616 ∧ 0 ≤ x.b ∧ x.b < 18446744073709551616
def fill (r : List Cel) (k : Nat) : List Cel := (r.take k).map norm ++ List.replicate (r.length - k) free
theorem fill_length (r : List Cel) (k : Nat) : (fill r k).length = r.length := by simp [fill]; omega
theorem fill_get (r : List Cel) (k : Nat) (h : k < r.length) : (fill r k).getD k free = free := by
  have : (fill r k)[k]? = some free := by
    unfold fill
    rw [List.getElem?_append_right (by simp; omega), List.getElem?_replicate]
    rw [if_pos (by simp; omega)]
  simp [List.getD, this]
theorem fill_step (r : List Cel) (k : Nat) (h : k < r.length) : (fill r k).set k (norm (r.getD k free)) = fill r (k + 1) := by
  unfold fill
  rw [List.set_append_right _ _ (by simp; omega), show k - ((r.take k).map norm).length = 0 by simp; omega, show r.length - k = (r.length - (k + 1)) + 1 by omega, List.replicate_succ, List.set_cons_zero]
  rw [show List.take (k + 1) r = List.take k r ++ [r[k]] by simp]
  simp only [List.map_append, List.map_cons, List.map_nil, List.append_assoc, List.cons_append, List.nil_append]
  rw [show r.getD k free = r[k] by simp [List.getD, h]]
theorem fill_same (r : List Cel) (k : Nat) (h : k < r.length) (hn : norm (r.getD k free) = free) : fill r k = fill r (k + 1) := by
  rw [← fill_step r k h, hn]
  have hl : k < (fill r k).length := by rw [fill_length]; exact h
  have hg := fill_get r k h
  have h2 : (fill r k)[k] = free := by simpa [List.getD, hl] using hg
  apply List.ext_getElem?
  intro i
  by_cases e : k = i
  · subst e; rw [List.getElem?_set_self hl, List.getElem?_eq_getElem hl, h2]
  · rw [List.getElem?_set_ne e]
/-- Make on the next place comes to the next row. -/
theorem make_fill (r : List Cel) (k : Nat) (h : k < r.length) : make (fill r k) k (r.getD k free).k (r.getD k free).c (r.getD k free).a (r.getD k free).b = fill r (k + 1) := by
  have hi : isC (fill r k) k = true := by simp [isC, fill_length]; omega
  have hu : used (fill r k) k = false := by simp only [used, hi, get_nat, fill_get r k h]; rfl
  unfold make makeE
  simp only [hi, hu, if_true]
  by_cases hb : (r.getD k free).k < 1 ∨ 3 < (r.getD k free).k ∨ 2 < (r.getD k free).c
  · simp only [hb, if_true]
    simp
    exact fill_same r k h (by simp only [norm, hb, if_true])
  · simp only [hb, if_false]
    simp only [Bool.false_eq_true, if_false, if_true, Int.toNat_natCast]
    rw [← fill_step r k h]
    simp only [norm, hb, if_false]

theorem heap_bad (w : World) (ao : Option Addr) (n cap : Nat) (h : n < 4 ∨ 4096 < n) :
    Calls Try.prog 8 #[.slice ao n cap] w fun e w' => e = .returned (.tuple #[.pointer none, .slice none 0 0]) ∧ w = w' := by
  have H := Cl.New_bad w n (by omega)
  clear h
  go_enter Try.func8, Try.ntmps8
  go_wp2_with (go_at_call 24; refine H.mono ?_; rintro e w' ⟨rfl, rfl⟩)
  go_ret2
  exact ⟨rfl, rfl⟩
theorem heap_any (w : World) (ao : Option Addr) (cap : Nat) (r : List Cel) (hr : ∀ x ∈ r, InR x) (h : Rd w ao (r.length * 4) (flat r)) (hn : 4 ≤ r.length ∧ r.length ≤ 4096) :
    Calls Try.prog 8 #[.slice ao r.length cap] w fun e w' => ∃ p s F o, e = .returned (.tuple #[.pointer (some ⟨p, 0, none⟩), .slice (some ⟨o, 0, none⟩) r.length r.length]) ∧ Is w' p s F (r.map norm) ∧
      w'.heap[o]? = some (.cells (flat (r.map norm)).toArray 29 (0, 0)) ∧ w.heap.size ≤ o ∧ (∀ b ∈ F, w.heap.size ≤ b ∧ b < o) ∧ Ch [] w w' := by
  obtain ⟨b, off, rfl, hc⟩ := h.2.resolve_left (by omega)
  have HC : ∀ k t, k < r.length → t < 4 → w.cell? ⟨b, off + (k * 4 + t), none⟩ = (cel (r.getD k free)).toList[t]? := fun k t hk ht => (hc (k * 4 + t) (by omega)).trans (flat_get r k t hk ht)
  have HQ := Lib.hid HC
  have HR := Lib.hid hr
  have HM := Lib.hid (make_fill r)
  have HS := Lib.hid (fill_same r)
  have h0 : fill r 0 = List.replicate r.length free := by simp [fill]
  have he : fill r r.length = r.map norm := by simp [fill]
  have HE := Lib.hid he
  have HL := Lib.hid (fill_length r)
  have HN := Cl.New_any w r.length hn.1 hn.2
  rw [← h0] at HN
  clear h hc HC hr h0 he
  generalize hN : r.length = n at *
  have HN' := Lib.hid hN
  clear hN
  go_enter Try.func8, Try.ntmps8
  go_wp2_with fail
  refine HN.mono ?_
  rintro e w1 ⟨p, s, F, rfl, h1, h2, h3⟩
  have H1 := Lib.hid h1
  have H2 := Lib.hid h2
  have H3 := Lib.hid h3
  clear h1 h2 h3 HN
  go_wp2_with fail
  go_loopw [6] (fun i wr => ∃ (k : Nat) (F' : List Nat), k ≤ n ∧ i = .int .i64 k ∧ Is wr p s F' (fill r k) ∧ Ch [] w wr ∧ ∀ b ∈ F', w.heap.size ≤ b) (fun i _ => n - (intOf i).toNat)
  case atStart => exact ⟨0, F, by omega, rfl, H1.out, H2.out, H3.out⟩
  case round =>
    obtain ⟨k, F', hk, rfl, i1, i2, i3⟩ := hrel
    have I1 := Lib.hid i1
    have I2 := Lib.hid i2
    have I3 := Lib.hid i3
    by_cases hlt : k < n
    · have c0 := i2.cell (HQ.out k 0 hlt (by omega)) (by simp)
      have c1 := i2.cell (HQ.out k 1 hlt (by omega)) (by simp)
      have c2 := i2.cell (HQ.out k 2 hlt (by omega)) (by simp)
      have c3 := i2.cell (HQ.out k 3 hlt (by omega)) (by simp)
      simp only [cel, List.getElem?_cons_zero, List.getElem?_cons_succ, Nat.add_zero, ← Nat.add_assoc] at c0 c1 c2 c3
      have hin : InR (r.getD k free) := HR.out _ (by
        have : k < r.length := by rw [HN'.out]; exact hlt
        rw [show r.getD k free = r[k] by simp [List.getD, this]]; exact List.getElem_mem this)
      have hmk := HM.out k hlt
      have hsm := HS.out k hlt
      have MK : ∀ w2, Is w2 p s F' (fill r k) → _ := fun w2 h => Make_any w2 p s F' (fill r k) k (r.getD k free).k (r.getD k free).c (r.getD k free).a (r.getD k free).b h hin.2.1 ⟨hin.2.2.1, hin.2.2.2.2.1, hin.2.2.2.2.2.1, hin.2.2.2.2.2.2.1, hin.2.2.2.2.2.2.2⟩
      rw [hmk] at MK
      have HMK := Lib.hid MK
      clear MK i1 i2 i3 hmk
      generalize r.getD k free = x at *
      obtain ⟨xk, xc, xa, xb⟩ := x
      simp only at *
      by_cases h0 : xk = 0
      · have hss := hsm (by simp [norm, h0])
        have HSS := Lib.hid hss
        subst h0
        clear hin hss hsm
        go_wp2_with fail
        go_roundw
        case rel => exact ⟨k + 1, F', by omega, by go_num, by rw [← HSS.out]; exact I1.out.ch ((Ch.refl [] wr).alloc _) (by simp), I2.out.alloc _, I3.out⟩
        case measure => simp [intOf]; omega
      · have hk' : (xk != 0) = true := by simpa using h0
        clear hin h0 hsm
        go_wp2_with fail
        refine (HMK.out _ (I1.out.ch ((Ch.refl [] wr).alloc _) (by simp))).mono ?_
        rintro e w2 ⟨rfl, F2, j1, j2, j3⟩
        have hch : Ch [] w w2 := (I2.out.alloc _).trans j2 (fun x hx => by
          simp only [List.mem_singleton] at hx
          subst hx
          exact .inr (I3.out _ I1.out.sf))
        have hfr : ∀ b ∈ F2, w.heap.size ≤ b := fun b hb => by
          rcases j3 b hb with h' | h'
          · exact I3.out b h'
          · have := I2.out.size; simp at h'; omega
        have J1 := Lib.hid j1
        have JC := Lib.hid hch
        have JF := Lib.hid hfr
        clear j1 j2 j3 hch hfr HMK
        generalize makeE (fill r k) k xk xc = me at *
        go_wp2_with fail
        go_roundw
        case rel => exact ⟨k + 1, F2, by omega, by go_num, J1.out, JC.out, JF.out⟩
        case measure => simp [intOf]; omega
    · obtain rfl : k = n := by omega
      rw [HE.out] at i1
      have HSn := Snapshot_any wr p s F' (r.map norm) i1
      have hlen : (r.map norm).length = k := by rw [List.length_map]; exact HN'.out
      rw [hlen] at HSn
      have J1 := Lib.hid i1
      clear i1 i2 i3
      go_wp2_with fail
      refine HSn.mono ?_
      rintro e w2 ⟨rfl, j1, j2⟩
      have K1 := Lib.hid j1
      have K2 := Lib.hid j2
      clear j1 j2 HSn
      go_wp2_with fail
      go_ret2
      exact ⟨p, s, F', wr.heap.size, rfl, J1.out.ch K2.out (by simp), K1.out, I2.out.size, fun b hb => ⟨I3.out b hb, J1.out.lt b hb⟩, I2.out.trans0 K2.out⟩
end Go.Proofs.Ytkcplmablelmbaa.Sw
