/-
  THE DOCUMENT's ALLOCATOR, on: Ask.
-/
import Derived.Test.YtdncodandmjknaaRef12
set_option linter.unusedVariables false
set_option linter.unusedSimpArgs false
set_option maxRecDepth 100000
namespace Go.Proofs.Ytdncodandmjknaa.R12
open Go.RowKit Go.Proofs.Ytdncodandmjknaa.Hp Go.Proofs.Ytdncodandmjknaa.Sm Go.Proofs.Ytdncodandmjknaa.Ap Go.Proofs.Ytdncodandmjknaa.Al

def AskPost (w : World) (p c : Nat) (qs : List Nat) (s : St) (t b : Int) (e : Ending) (w' : World) : Prop :=
  e = .returned (.tuple #[.int .i64 (askCell s t), .bool (askGot s t), .int .i64 (askErr s t)]) ∧ ∃ qs', Rs w' p c qs' (Ap.ask s t b) ∧ Ch (p :: c :: qs) w w' ∧ (∀ q ∈ qs', q ∈ qs ∨ w.heap.size ≤ q)
theorem AskPost.bad {w : World} {p c : Nat} {qs : List Nat} {s : St} {t b : Int} (h : Rs w p c qs s) (hb : badT s t = true) : AskPost w p c qs s t b (.returned (.tuple #[.int .i64 0, .bool false, .int .i64 120])) w :=
  ⟨by simp [askCell, askGot, askErr, hb], qs, by simp only [Ap.ask, hb, if_true]; exact h, Ch.refl _ _, fun q hq => .inl hq⟩
theorem AskPost.take {w : World} {p c : Nat} {qs : List Nat} {s : St} {t : Nat} {b : Int} {l : List Int} {qv : Value} (inv : Inv s) (h1 : RW s l) (h2 : RH w p c l qv) (h3 : Row w 101 2 qv qs s.q.length (wcells s.q)) (h4 : ∀ q ∈ qs, q ≠ p ∧ q ≠ c ∧ q < w.heap.size)
    (ht : 1 ≤ t ∧ t ≤ 8) (hw : Ap.waits s t = false) (k : Nat) (hk : k < l.length) (e : l.getD k 0 = t) : AskPost w p c qs s t b (.returned (.tuple #[.int .i64 k, .bool true, .int .i64 0])) (w.setCell ⟨c, k, none⟩ (.int .i64 (-1))) := by
  have hg := (h1.given inv k t hk ht).1 e
  have hbt : badT s t = false := by simp [badT, hw]; omega
  have eg : gift s t = k + 1 := by simpa [gift] using hg
  have hp : (0 : Int) < k + 1 := by omega
  refine ⟨by simp [askCell, askGot, askErr, hbt, eg, hp], qs, ?_, (Ch.refl _ _).setCell _ _ (.inl (by simp)), fun q hq => .inl hq⟩
  have ea : Ap.ask s t b = { s with gs := s.gs.set t 0, cs := s.cs.set k 1 } := by
    simp only [Ap.ask, hbt, eg, hp, if_true, Bool.false_eq_true, if_false, Int.toNat_natCast, show ((k : Int) + 1 - 1).toNat = k by omega]
  rw [ea]
  exact Rs.mk' (h1.take inv k t hk ht hg) (h2.setC k (-1)) (h3.keep (fun q hq o ho => (heap_set_ne (h4 q hq).2.1).trans ho)) (fun q hq => ⟨(h4 q hq).1, (h4 q hq).2.1, by simpa [World.setCell] using (h4 q hq).2.2⟩)
theorem no_gift {s : St} {l : List Int} {t : Nat} (inv : Inv s) (h1 : RW s l) (ht : 1 ≤ t ∧ t ≤ 8) (h : ∀ j, j < l.length → l.getD j 0 ≠ t) : ¬ 0 < gift s t := by
  intro hg
  have hg' : 0 < s.gs.getD t 0 := by simpa [gift] using hg
  have hr := gr_at inv t (by omega)
  have hl := h1.len
  have := h (s.gs.getD t 0 - 1).toNat (by omega)
  exact this ((h1.given inv _ t (by omega) ht).2 (by omega))
theorem AskPost.free {w : World} {p c : Nat} {qs : List Nat} {s : St} {t : Nat} {b : Int} {l : List Int} {qv : Value} (inv : Inv s) (h1 : RW s l) (h2 : RH w p c l qv) (h3 : Row w 101 2 qv qs s.q.length (wcells s.q)) (h4 : ∀ q ∈ qs, q ≠ p ∧ q ≠ c ∧ q < w.heap.size)
    (ht : 1 ≤ t ∧ t ≤ 8) (hw : Ap.waits s t = false) (hn : ∀ j, j < l.length → l.getD j 0 ≠ t) (k : Nat) (hk : k < l.length) (e : l.getD k 0 = 0) (hf : ∀ j, j < k → l.getD j 0 ≠ 0) : AskPost w p c qs s t b (.returned (.tuple #[.int .i64 k, .bool true, .int .i64 0])) (w.setCell ⟨c, k, none⟩ (.int .i64 (-1))) := by
  have hbt : badT s t = false := by simp [badT, hw]; omega
  have hg := no_gift inv h1 ht hn
  have hl := h1.len
  have hi : idx 0 s.cs = k := idx_at (fun j hj e2 => hf j hj ((h1.zero inv j (by omega)).2 e2)) (by omega) ((h1.zero inv k hk).1 e)
  have hp : (0 : Int) ≤ k := by omega
  refine ⟨by simp [askCell, askGot, askErr, hbt, hg, hi, hp], qs, ?_, (Ch.refl _ _).setCell _ _ (.inl (by simp)), fun q hq => .inl hq⟩
  have ea : Ap.ask s t b = { s with cs := s.cs.set k 1 } := by
    simp only [Ap.ask, hbt, hg, hi, hp, if_true, Bool.false_eq_true, if_false, Int.toNat_natCast]
  rw [ea]
  exact Rs.mk' (h1.setC k 1 (-1) (.inr ⟨rfl, rfl⟩)) (h2.setC k (-1)) (h3.keep (fun q hq o ho => (heap_set_ne (h4 q hq).2.1).trans ho)) (fun q hq => ⟨(h4 q hq).1, (h4 q hq).2.1, by simpa [World.setCell] using (h4 q hq).2.2⟩)

theorem Ask_no (w : World) (p c : Nat) (qs : List Nat) (s : St) (t b : Int) (h : Rs w p c qs s) (ht : t < 1 ∨ 8 < t) :
    Calls Try.prog 22 #[.pointer (some ⟨p, 0, none⟩), .int .i64 t, .int .i64 b] w (AskPost w p c qs s t b) := by
  have P := Lib.hid (AskPost.bad (b := b) h (t := t) (by unfold badT; rcases ht with ht | ht <;> simp [ht]))
  clear h
  rcases ht with ht | ht
  · go_enter Try.func22, Try.ntmps22
    go_wp2_with fail
    go_ret3
    exact P.out
  · go_enter Try.func22, Try.ntmps22
    go_wp2_with fail
    go_ret3
    exact P.out
set_option maxHeartbeats 2000000 in
theorem Ask_in (w : World) (p c : Nat) (qs : List Nat) (s : St) (t : Nat) (b : Int) (h : Rs w p c qs s) (inv : Inv s) (hb : -9223372036854775808 ≤ b ∧ b ≤ 9223372036854775807) (ht : 1 ≤ t ∧ t ≤ 8) :
    Calls Try.prog 22 #[.pointer (some ⟨p, 0, none⟩), .int .i64 t, .int .i64 b] w (AskPost w p c qs s t b) := by
  obtain ⟨i0, hi0, hz0, hz1, hz2⟩ := info_parts infoW
  obtain ⟨⟨l, qv, h1, h2, h3⟩, h4⟩ := id h
  obtain ⟨ao, cap, rfl, k1, k2, h6⟩ := h3.rd
  obtain ⟨o1, o2, o3, o4, o5⟩ := h2.open
  obtain ⟨hxl, bw, offw, hao, hcx⟩ := rd_wait h6
  have ln := inv.ok.len
  have hq8 := inv.ok.ql
  have hle := h1.len
  have f1 := o4 1
  obtain ⟨N, hN⟩ : ∃ N, N = s.q.length := ⟨_, rfl⟩
  obtain ⟨L, hL⟩ : ∃ L, L = l.length := ⟨_, rfl⟩
  rw [← hN] at o2 hao hcx hq8
  rw [← hL] at o1 o3 hle
  rw [← hle] at ln
  have HPB := Lib.hid (fun hb => AskPost.bad (b := b) h (t := t) hb)
  have HTK := Lib.hid (fun hw => AskPost.take (b := b) inv h1 h2 h3 h4 ht hw)
  have HFR := Lib.hid (fun hw hn => AskPost.free (b := b) inv h1 h2 h3 h4 ht hw hn)
  have HNG := Lib.hid (no_gift inv h1 ht)
  have HA := Lib.hid hao
  have HC := Lib.hid hcx
  have HO3 := Lib.hid o3
  have HO5 := Lib.hid o5
  have HNN := Lib.hid hN
  have HLL := Lib.hid hL
  have H1 := Lib.hid h1
  have H2 := Lib.hid h2
  have H3 := Lib.hid h3
  have H4 := Lib.hid h4
  have hpl := lt_of h2.blk
  have HINV := Lib.hid inv
  clear h h1 h2 h3 h4 hao hcx o3 o4 o5 hN hL inv hxl h6
  go_enter Try.func22, Try.ntmps22
  go_wp2_with fail
  go_loop [9] (fun i => ∃ k : Nat, k ≤ N ∧ i = .int .i64 k ∧ (∀ j, j < k → (s.q.getD j (0, 0)).1 ≠ t)) (fun i => N - (intOf i).toNat)
  case atStart => exact ⟨0, by omega, rfl, fun j hj => absurd hj (by omega)⟩
  case round =>
    obtain ⟨k, hk, rfl, hag⟩ := hrel
    have HG := Lib.hid hag
    clear hag
    by_cases hlt : k < N
    · obtain rfl := HA.out (by omega)
      obtain ⟨c1, c2⟩ := HC.out k hlt
      clear c2
      generalize hu : (s.q.getD k (0, 0)).1 = u at *
      have HU := Lib.hid hu
      clear hu
      have ltI : (k : Int) < N := by omega
      by_cases huv : u = t
      · have huv' : (u == (t : Int)) = true := by simpa using huv
        have HUV := Lib.hid huv
        clear huv
        have P := Lib.hid (HPB.out (by
          have : Ap.waits s t = true := any_at (k := k) (by rw [← HNN.out]; exact hlt) (by rw [HU.out, HUV.out])
          simp [badT, this]))
        go_wp2_with fail
        go_ret3
        exact P.out
      · have huv' : (u == (t : Int)) = false := by simpa using huv
        have HUV := Lib.hid huv
        clear huv
        go_wp2_with fail
        go_round
        case rel => exact ⟨k + 1, by omega, by go_num, fun j hj => by
          rcases Nat.lt_or_ge j k with h | h
          · exact HG.out j h
          · obtain rfl : j = k := by omega
            rw [HU.out]; exact HUV.out⟩
        case measure => simp [intOf]; omega
    · obtain rfl : N = k := by omega
      have hw : Ap.waits s t = false := any_none (fun j hj => HG.out j (by have := HNN.out; omega))
      have HW := Lib.hid hw
      clear hw HG
      go_wp2_with fail
      go_loop [10] (fun i => ∃ k : Nat, k ≤ L ∧ i = .int .i64 k ∧ (∀ j, j < k → l.getD j 0 ≠ t)) (fun i => L - (intOf i).toNat)
      case atStart => exact ⟨0, by omega, rfl, fun j hj => absurd hj (by omega)⟩
      case round =>
        obtain ⟨k, hk, rfl, hag⟩ := hrel
        have HG := Lib.hid hag
        clear hag
        by_cases hlt : k < L
        · have c1 := HO3.out k hlt
          have f2 := HO5.out k
          generalize hu : l.getD k 0 = u at *
          have HU := Lib.hid hu
          clear hu
          have ltI : (k : Int) < L := by omega
          by_cases huv : u = t
          · have huv' : (u == (t : Int)) = true := by simpa using huv
            have P := Lib.hid (HTK.out HW.out k (by rw [← HLL.out]; exact hlt) (by rw [HU.out, huv]))
            clear huv
            go_wp2_with fail
            go_ret3
            exact P.out
          · have huv' : (u == (t : Int)) = false := by simpa using huv
            have HUV := Lib.hid huv
            clear huv
            go_wp2_with fail
            go_round
            case rel => exact ⟨k + 1, by omega, by go_num, fun j hj => by
              rcases Nat.lt_or_ge j k with h | h
              · exact HG.out j h
              · obtain rfl : j = k := by omega
                rw [HU.out]; exact HUV.out⟩
            case measure => simp [intOf]; omega
        · obtain rfl : L = k := by omega
          have HNT : Hid (∀ j, j < l.length → l.getD j 0 ≠ t) := Lib.hid (fun j hj => HG.out j (by have := HLL.out; omega))
          clear HG
          go_wp2_with fail
          go_loop [11] (fun i => ∃ k : Nat, k ≤ L ∧ i = .int .i64 k ∧ (∀ j, j < k → l.getD j 0 ≠ 0)) (fun i => L - (intOf i).toNat)
          case atStart => exact ⟨0, by omega, rfl, fun j hj => absurd hj (by omega)⟩
          case round =>
            obtain ⟨k, hk, rfl, hag⟩ := hrel
            have HG := Lib.hid hag
            clear hag
            by_cases hlt : k < L
            · have c1 := HO3.out k hlt
              have f2 := HO5.out k
              generalize hu : l.getD k 0 = u at *
              have HU := Lib.hid hu
              clear hu
              have ltI : (k : Int) < L := by omega
              by_cases huv : u = 0
              · have huv' : (u == (0 : Int)) = true := by simpa using huv
                have P := Lib.hid (HFR.out HW.out HNT.out k (by rw [← HLL.out]; exact hlt) (by rw [HU.out, huv]) HG.out)
                clear huv
                go_wp2_with fail
                go_ret3
                exact P.out
              · have huv' : (u == (0 : Int)) = false := by simpa using huv
                have HUV := Lib.hid huv
                clear huv
                go_wp2_with fail
                go_round
                case rel => exact ⟨k + 1, by omega, by go_num, fun j hj => by
                  rcases Nat.lt_or_ge j k with h | h
                  · exact HG.out j h
                  · obtain rfl : j = k := by omega
                    rw [HU.out]; exact HUV.out⟩
                case measure => simp [intOf]; omega
            · obtain rfl : L = k := by omega
              have HNF : Hid (∀ j, j < l.length → l.getD j 0 ≠ 0) := Lib.hid (fun j hj => HG.out j (by have := HLL.out; omega))
              clear HG
              have R1 := Lib.hid (H3.out.ch ((Ch.refl [] w).alloc (.cells #[.int .i64 t, .int .i64 b] 101)) (by simp))
              have r1 := R1.out
              rw [← HNN.out] at r1
              have R1' := Lib.hid r1
              have HN1 := Lib.hid (newL (w := w) (b := w.heap.size) rfl [.int .i64 t, .int .i64 b] 101)
              have O2 := Lib.hid o2
              have F1 := Lib.hid f1
              clear r1 f1
              go_wp2_with (at_builtin; refine wpList_append_row _ rfl _ _ 60 rfl 101 i0 (.agg #[.int .i64 0, .int .i64 0]) 2 16 Try.underlying60 hi0 hz0 hz1 hz2 rfl (by decide) rfl R1'.out ⟨w.heap.size, 0, none⟩ 1 1 [.int .i64 t, .int .i64 b] rfl rfl HN1.out (one2 _ _ _ _) (by unfold maxLen; omega) (by omega) ?_)
              intro v' w3 qs' hr4 hc4 hq4
              have CA : Ch [] w (w.alloc (.cells #[.int .i64 t, .int .i64 b] 101)) := (Ch.refl _ _).alloc _
              have pn : p ∉ qs := fun hm => (H4.out p hm).1 rfl
              have cn : c ∉ qs := fun hm => (H4.out c hm).2.1 rfl
              have C3 : Ch qs w w3 := (CA.mono (by simp)).trans' hc4
              have o2' := C3.cell O2.out pn
              have f1' := (C3.frozen (p := ⟨p, 1, none⟩) hpl pn).trans F1.out
              obtain ⟨ao', cap', rfl, _⟩ := hr4.rd
              have hq5 : News qs qs' (w.alloc (.cells #[.int .i64 t, .int .i64 b] 101)) w3 := by unfold News; simpa using hq4
              have HR4 := Lib.hid hr4
              have HQ5 := Lib.hid hq5
              have HC3 := Lib.hid C3
              have HPN := Lib.hid pn
              have HCN := Lib.hid cn
              clear hr4 hc4 hq4 hq5 C3 pn cn CA R1 R1' HN1 o2
              go_wp2_with fail
              go_ret3
              have hbt : badT s t = false := by simp [badT, HW.out]; omega
              have hg0 := HNG.out HNT.out
              have hg : ¬ 0 < gift s t := by omega
              have hix : ¬ 0 ≤ idx 0 s.cs := by
                intro h0
                have := idx0_lt h0
                exact HNF.out _ (by rw [H1.out.len]; exact this.1) ((H1.out.zero HINV.out _ (by rw [H1.out.len]; exact this.1)).2 this.2)
              have ea : Ap.ask s t b = { s with q := s.q ++ [((t : Int), b)] } := by simp only [Ap.ask, hbt, hg, hix, Bool.false_eq_true, if_false]
              refine ⟨by simp [askCell, askGot, askErr, hbt, hg, hix], qs', ?_, (HC3.out.mono (fun x hx => by simp [hx])).setCell _ _ (.inl (by simp)), fun q hq => ?_⟩
              · rw [ea]
                have hs := HC3.out.size
                have hqn : ∀ q ∈ qs', q ≠ p ∧ q ≠ c ∧ q < w3.heap.size := fun q hq => by
                  rcases HQ5.out.mem hq with h | h
                  · have := H4.out q h; exact ⟨this.1, this.2.1, by omega⟩
                  · have hc := lt_of H2.out.cel
                    simp at h; omega
                have hl : (s.q ++ [((t : Int), b)]).length = N + 1 := by rw [List.length_append, ← HNN.out]; rfl
                exact Rs.mk' (H1.out.q _) ((H2.out.ch HC3.out HPN.out HCN.out).setQ _) (by
                  rw [hl, wcells_append]
                  exact HR4.out.keep (fun q hq o ho => (heap_set_ne (hqn q hq).1).trans ho)) (fun q hq => ⟨(hqn q hq).1, (hqn q hq).2.1, by simpa [World.setCell] using (hqn q hq).2.2⟩)
              · rcases HQ5.out.mem hq with h | h
                · exact .inl h
                · simp at h; right; omega
theorem Ask_any (w : World) (p c : Nat) (qs : List Nat) (s : St) (t b : Int) (h : Rs w p c qs s) (inv : Inv s) (hb : -9223372036854775808 ≤ b ∧ b ≤ 9223372036854775807) :
    Calls Try.prog 22 #[.pointer (some ⟨p, 0, none⟩), .int .i64 t, .int .i64 b] w (AskPost w p c qs s t b) := by
  by_cases ht : t < 1 ∨ 8 < t
  · exact Ask_no w p c qs s t b h ht
  · obtain ⟨t, rfl⟩ := Int.eq_ofNat_of_zero_le (show 0 ≤ t by omega)
    exact Ask_in w p c qs s t b h inv hb (by omega)
end Go.Proofs.Ytdncodandmjknaa.R12
