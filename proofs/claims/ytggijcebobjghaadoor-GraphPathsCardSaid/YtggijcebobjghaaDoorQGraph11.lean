/-
  THE WALK of graph.Path.
-/
import Derived.Test.YtggijcebobjghaaDoorQGraph10
import Derived.BigQuiet
set_option linter.unusedVariables false
set_option linter.unusedSimpArgs false
set_option maxRecDepth 100000
namespace Go.Proofs.YtggijcebobjghaaDoor.Gr
open Go.RowKit Go.Proofs.YtggijcebobjghaaDoor.Wd Go.Proofs.YtggijcebobjghaaDoor.Hp Go.Proofs.YtggijcebobjghaaDoor.Gp Go.Proofs.YtggijcebobjghaaDoor.Sm

structure PS (ps ob pb n : Nat) (st : List Int) (w : World) (b : Int) (T : List Nat) : Prop where
  t : T = [pb]
  hps : w.heap[ps]? = some (.cells #[.slice (some ⟨ob, 0, none⟩) n n] 59 (0, 0))
  hob : w.heap[ob]? = some (.cells (iv st).toArray 3 (0, 0))
  hpb : w.heap[pb]? = some (.cells #[.int .i64 b] 3 (0, 0))
  ne : ps ≠ pb ∧ ob ≠ pb
  len : st.length = n
  ok : BOk n st b
theorem PS.ch {ps ob pb n : Nat} {st : List Int} {w w' : World} {b : Int} {T : List Nat} (h : PS ps ob pb n st w b T) (hc : Ch [] w w') : PS ps ob pb n st w' b T :=
  ⟨h.t, hc.heap h.hps (by simp), hc.heap h.hob (by simp), hc.heap h.hpb (by simp), h.ne, h.len, h.ok⟩
theorem better_steps (ps ob pb n : Nat) (st : List Int) (hn : n ≤ 1000000) : Steps 64 ps pb (PS ps ob pb n st) (better st) (fun c => c < n) := by
  intro w b T c hI hc
  have HI := Lib.hid hI
  obtain ⟨hT, hps, hob, hpb, ⟨d1, d2⟩, hl, hok⟩ := hI
  have a1 := cell_at (i := 0) hps
  have a2 := cell_at (i := 0) hpb
  simp only [List.getElem?_toArray, List.getElem?_cons_zero] at a1 a2
  have a3 := cell_at (i := c) hob
  rw [List.getElem?_toArray, iv_at _ _ 0 (by rw [hl]; exact hc)] at a3
  have f2 := free_at (i := 0) hpb
  have ltI : (c : Int) < n := by omega
  have NO : Hid (better st b c = b → ∀ nq, (∃ T', PS ps ob pb n st (w.drewN nq) (better st b c) T' ∧ Ch T w (w.drewN nq) ∧ ∀ t ∈ T', t ∈ T ∨ w.heap.size ≤ t)) := Lib.hid (fun e nq => by
    rw [e]; exact ⟨T, HI.out.ch ((Ch.refl [] w).drewN nq), (Ch.refl _ _).drewN nq, fun t ht => .inl ht⟩)
  have YES : Hid (better st b c = (c : Int) → ∀ nq, (∃ T', PS ps ob pb n st ((w.drewN nq).setCell ⟨pb, 0, none⟩ (.int .i64 c)) (better st b c) T' ∧ Ch T w ((w.drewN nq).setCell ⟨pb, 0, none⟩ (.int .i64 c)) ∧ ∀ t ∈ T', t ∈ T ∨ w.heap.size ≤ t)) := Lib.hid (fun e nq => by
    have hs := hok.step c hc
    rw [e] at hs ⊢
    exact ⟨T, ⟨hT, (heap_set_ne d1).trans hps, (heap_set_ne d2).trans hob, heap_set (w := w.drewN nq) hpb _, ⟨d1, d2⟩, hl, hs⟩, ((Ch.refl _ _).drewN nq).setCell _ _ (.inl (by rw [hT]; simp)), fun t ht => .inl ht⟩)
  have HB : Hid (better st b c = if 0 ≤ st.getD c 0 ∧ (b < 0 ∨ st.getD c 0 < st.getD b.toNat 0 ∨ (st.getD c 0 = st.getD b.toNat 0 ∧ (c : Int) < b)) then (c : Int) else b) := Lib.hid rfl
  obtain ⟨R, hR⟩ : ∃ R, R = better st b c := ⟨_, rfl⟩
  rw [← hR] at NO YES HB ⊢
  clear hR
  rcases hok with rfl | ⟨b1, b2, b3⟩
  · -- none yet
    clear hT hps hob hpb d1 d2 hl HI
    generalize st.getD c 0 = sc at *
    by_cases h0 : 0 ≤ sc
    · have hd0 : decide (0 ≤ sc) = true := by simpa using h0
      have e : R = (c : Int) := by rw [HB.out, if_pos ⟨h0, .inl (by omega)⟩]
      have P := Lib.hid (YES.out e)
      clear YES NO HB e
      go_enter Tryd.func64, Tryd.ntmps64
      go_wp2_with fail
      go_quiet (fail)
      have a5 : (w.drewN nq).cell? ⟨pb, 0, none⟩ = some (.int .i64 (-1)) := a2
      have f5 : (w.drewN nq).frozen? ⟨pb, 0, none⟩ = false := f2
      go_wp2_with fail
      go_end0
      exact ⟨rfl, P.out _⟩
    · have hd0 : decide (0 ≤ sc) = false := by simpa using h0
      have e : R = -1 := by rw [HB.out, if_neg (fun h => h0 h.1)]
      have P := Lib.hid (NO.out e)
      clear YES NO HB e
      go_enter Tryd.func64, Tryd.ntmps64
      go_wp2_with fail
      go_quiet (fail)
      go_wp2_with fail
      go_end0
      exact ⟨rfl, P.out _⟩
  · obtain ⟨bn, rfl⟩ : ∃ bn : Nat, b = bn := ⟨b.toNat, by omega⟩
    rw [Int.toNat_natCast] at HB b3
    have bI : (bn : Int) < n := by omega
    have a4 := cell_at (i := bn) hob
    rw [List.getElem?_toArray, iv_at _ _ 0 (by rw [hl]; omega)] at a4
    clear hT hps hob hpb d1 d2 hl HI
    have nb : decide ((bn : Int) < 0) = false := by simp
    generalize st.getD c 0 = sc at *
    generalize st.getD bn 0 = sb at *
    by_cases h0 : 0 ≤ sc
    · have hd0 : decide (0 ≤ sc) = true := by simpa using h0
      by_cases h1 : sc < sb
      · have hd1 : decide (sc < sb) = true := by simpa using h1
        have e : R = (c : Int) := by rw [HB.out, if_pos ⟨h0, .inr (.inl h1)⟩]
        have P := Lib.hid (YES.out e)
        clear YES NO HB e
        go_enter Tryd.func64, Tryd.ntmps64
        go_wp2_with fail
        go_quiet (fail)
        have a5 : (w.drewN nq).cell? ⟨pb, 0, none⟩ = some (.int .i64 bn) := a2
        have f5 : (w.drewN nq).frozen? ⟨pb, 0, none⟩ = false := f2
        go_wp2_with fail
        go_end0
        exact ⟨rfl, P.out _⟩
      · have hd1 : decide (sc < sb) = false := by simpa using h1
        by_cases h2 : sc = sb
        · have hd2 : (sc == sb) = true := by simpa using h2
          by_cases h3 : (c : Int) < bn
          · have hd3 : decide ((c : Int) < bn) = true := by simpa using h3
            have e : R = (c : Int) := by rw [HB.out, if_pos ⟨h0, .inr (.inr ⟨h2, h3⟩)⟩]
            have P := Lib.hid (YES.out e)
            clear YES NO HB e
            subst h2
            go_enter Tryd.func64, Tryd.ntmps64
            go_wp2_with fail
            go_quiet (fail)
            have a5 : (w.drewN nq).cell? ⟨pb, 0, none⟩ = some (.int .i64 bn) := a2
            have f5 : (w.drewN nq).frozen? ⟨pb, 0, none⟩ = false := f2
            go_wp2_with fail
            go_end0
            exact ⟨rfl, P.out _⟩
          · have hd3 : decide ((c : Int) < bn) = false := by simpa using h3
            have e : R = (bn : Int) := by rw [HB.out, if_neg (fun h => by rcases h.2 with h | h | h <;> omega)]
            have P := Lib.hid (NO.out e)
            clear YES NO HB e
            subst h2
            go_enter Tryd.func64, Tryd.ntmps64
            go_wp2_with fail
            go_quiet (fail)
            go_wp2_with fail
            go_end0
            exact ⟨rfl, P.out _⟩
        · have hd2 : (sc == sb) = false := by simpa using h2
          have e : R = (bn : Int) := by rw [HB.out, if_neg (fun h => by rcases h.2 with h | h | h <;> omega)]
          have P := Lib.hid (NO.out e)
          clear YES NO HB e
          go_enter Tryd.func64, Tryd.ntmps64
          go_wp2_with fail
          go_quiet (fail)
          go_wp2_with fail
          go_end0
          exact ⟨rfl, P.out _⟩
    · have hd0 : decide (0 ≤ sc) = false := by simpa using h0
      have e : R = (bn : Int) := by rw [HB.out, if_neg (fun h => h0 h.1)]
      have P := Lib.hid (NO.out e)
      clear YES NO HB e
      go_enter Tryd.func64, Tryd.ntmps64
      go_wp2_with fail
      go_quiet (fail)
      go_wp2_with fail
      go_end0
      exact ⟨rfl, P.out _⟩
end Go.Proofs.YtggijcebobjghaaDoor.Gr
