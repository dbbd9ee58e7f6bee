/-
  THE KEEPER's calls: asks.
-/
import Derived.Test.YtdncodandmjknaaKeep1
import Derived.Test.YtdncodandmjknaaHeap2
set_option linter.unusedVariables false
set_option linter.unusedSimpArgs false
set_option maxRecDepth 100000
namespace Go.Proofs.Ytdncodandmjknaa.Kp
open Go.RowKit Go.Proofs.Ytdncodandmjknaa.Hp Go.Proofs.Ytdncodandmjknaa.Sm Go.Proofs.Ytdncodandmjknaa.Ap Go.Proofs.Ytdncodandmjknaa.Al

/-- An allocator and its keeper, both made since w0, apart. -/
def Jn (w0 w : World) (p c k kc : Nat) (s : St) : Prop := ∃ qs ks, Al.Is w p c qs s ∧ Ks w k kc ks s ∧ Ch [] w0 w ∧
  (∀ x ∈ p :: c :: qs, w0.heap.size ≤ x) ∧ (∀ x ∈ k :: kc :: ks, w0.heap.size ≤ x) ∧ (∀ x ∈ p :: c :: qs, x ∉ k :: kc :: ks)
theorem Jn.ch {w0 w w' : World} {p c k kc : Nat} {s : St} (h : Jn w0 w p c k kc s) (hc : Ch [] w w') : Jn w0 w' p c k kc s := by
  obtain ⟨qs, ks, h1, h2, h3, h4, h5, h6⟩ := h
  exact ⟨qs, ks, h1.ch hc (by simp) (by simp) (by simp), h2.ch hc (by simp) (by simp) (by simp), h3.trans' hc, h4, h5, h6⟩
/-- The allocator's step, the keeper not yet: then the keeper's own. -/
def Mid (w0 w : World) (p c k kc : Nat) (s s' : St) : Prop := ∃ qs ks, Al.Is w p c qs s' ∧ Ks w k kc ks s ∧ Ch [] w0 w ∧
  (∀ x ∈ p :: c :: qs, w0.heap.size ≤ x) ∧ (∀ x ∈ k :: kc :: ks, w0.heap.size ≤ x) ∧ (∀ x ∈ p :: c :: qs, x ∉ k :: kc :: ks)
theorem Ask_mid {w0 w : World} {p c k kc : Nat} {s : St} (h : Jn w0 w p c k kc s) (t b : Int) (hb : -9223372036854775808 ≤ b ∧ b ≤ 9223372036854775807) {x : Int} {g : Bool} {er : Int} (h1 : askCell s t = x) (h2 : askGot s t = g) (h3 : askErr s t = er) :
    Calls Try.prog 19 #[.pointer (some ⟨p, 0, none⟩), .int .i64 t, .int .i64 b] w fun e w' => e = .returned (.tuple #[.int .i64 x, .bool g, .int .i64 er]) ∧ Mid w0 w' p c k kc s (Ap.ask s t b) := by
  obtain ⟨qs, ks, i1, i2, i3, i4, i5, i6⟩ := h
  subst h1 h2 h3
  refine (Ask_any w p c qs s t b i1 hb).mono fun e w' ⟨k1, qs', k2, k3, k4⟩ => ⟨k1, qs', ks, k2, i2.ch k3 (fun hm => i6 _ hm (by simp)) (fun hm => i6 _ hm (by simp)) (fun q hq hm => i6 _ hm (by simp [hq])), i3.trans k3 (fun x hx => .inr (i4 x hx)), ?_, i5, ?_⟩
  · intro x hx
    rcases List.mem_cons.1 hx with rfl | hx
    · exact i4 _ (by simp)
    rcases List.mem_cons.1 hx with rfl | hx
    · exact i4 _ (by simp)
    rcases k4 x hx with h | h
    · exact i4 x (by simp [h])
    · exact Nat.le_trans i3.size h
  · intro x hx hm
    have hlt : x < w.heap.size := by
      rcases List.mem_cons.1 hm with rfl | hm
      · exact i2.lt.1
      rcases List.mem_cons.1 hm with rfl | hm
      · exact i2.lt.2
      · exact (i2.qne x hm).2.2
    rcases List.mem_cons.1 hx with rfl | hx
    · exact i6 _ (by simp) hm
    rcases List.mem_cons.1 hx with rfl | hx
    · exact i6 _ (by simp) hm
    rcases k4 x hx with h | h
    · exact i6 x (by simp [h]) hm
    · omega
theorem Back_mid {w0 w : World} {p c k kc : Nat} {s : St} (h : Jn w0 w p c k kc s) (i : Int) {n er : Int} (h1 : backN s i = n) (h2 : backErr s i = er) :
    Calls Try.prog 20 #[.pointer (some ⟨p, 0, none⟩), .int .i64 i] w fun e w' => e = .returned (.tuple #[.int .i64 n, .int .i64 er]) ∧ Mid w0 w' p c k kc s (Ap.back s i) := by
  obtain ⟨qs, ks, i1, i2, i3, i4, i5, i6⟩ := h
  subst h1 h2
  refine (Back_any w p c qs s i i1).mono fun e w' ⟨k1, k2, k3⟩ => ⟨k1, qs, ks, k2, i2.ch k3 (fun hm => ?_) (fun hm => ?_) (fun q hq hm => ?_), i3.trans k3 (fun x hx => .inr (i4 x ?_)), i4, i5, i6⟩
  · simp only [List.mem_cons, List.not_mem_nil, or_false] at hm
    rcases hm with h | h
    · exact i6 p (by simp) (by simp [h])
    · exact i6 c (by simp) (by simp [h])
  · simp only [List.mem_cons, List.not_mem_nil, or_false] at hm
    rcases hm with h | h
    · exact i6 p (by simp) (by simp [h])
    · exact i6 c (by simp) (by simp [h])
  · simp only [List.mem_cons, List.not_mem_nil, or_false] at hm
    rcases hm with h | h
    · exact i6 p (by simp) (by rw [h] at hq; simp [hq])
    · exact i6 c (by simp) (by rw [h] at hq; simp [hq])
  · simp only [List.mem_cons, List.not_mem_nil, or_false] at hx ⊢
    rcases hx with rfl | rfl <;> simp
theorem Mid.done {w0 w w' : World} {p c k kc : Nat} {s s' : St} {qs ks ks' : List Nat} {S : List Nat} (i1 : Al.Is w p c qs s') (i2 : Ks w k kc ks s) (i3 : Ch [] w0 w) (i4 : ∀ x ∈ p :: c :: qs, w0.heap.size ≤ x) (i5 : ∀ x ∈ k :: kc :: ks, w0.heap.size ≤ x)
    (i6 : ∀ x ∈ p :: c :: qs, x ∉ k :: kc :: ks) (hc : Ch S w w') (hS : ∀ x ∈ S, x ∈ k :: kc :: ks) (hk : Ks w' k kc ks' s') (hk' : ∀ q ∈ ks', q ∈ ks ∨ w.heap.size ≤ q) : Jn w0 w' p c k kc s' := by
  have hn : ∀ x ∈ p :: c :: qs, x ∉ S := fun x hx hm => i6 x hx (hS x hm)
  have hlt : ∀ x ∈ p :: c :: qs, x < w.heap.size := fun x hx => by
    rcases List.mem_cons.1 hx with rfl | hx
    · exact i1.lt.1
    rcases List.mem_cons.1 hx with rfl | hx
    · exact i1.lt.2
    · exact (i1.qne x hx).2.2
  refine ⟨qs, ks', i1.ch hc (hn _ (by simp)) (hn _ (by simp)) (fun q hq => hn q (by simp [hq])), hk, i3.trans hc (fun x hx => .inr (i5 x (hS x hx))), i4, fun x hx => ?_, fun x hx hm => ?_⟩
  · rcases List.mem_cons.1 hx with rfl | hx
    · exact i5 _ (by simp)
    rcases List.mem_cons.1 hx with rfl | hx
    · exact i5 _ (by simp)
    rcases hk' x hx with h | h
    · exact i5 x (by simp [h])
    · exact Nat.le_trans i3.size h
  · rcases List.mem_cons.1 hm with rfl | hm
    · exact i6 _ hx (by simp)
    rcases List.mem_cons.1 hm with rfl | hm
    · exact i6 _ hx (by simp)
    rcases hk' x hm with h | h
    · exact i6 x hx (by simp [h])
    · have := hlt x hx; omega

theorem asks_waits {w0 w : World} {p c k kc : Nat} {s : St} (h : Jn w0 w p c k kc s) (t : Nat) (b : Int) (hb : 0 ≤ b ∧ b ≤ 4) (ht : 1 ≤ t ∧ t ≤ 8) (hw : Ap.waits s t = true) : Calls Try.prog 13 #[.pointer (some ⟨k, 0, none⟩), .pointer (some ⟨p, 0, none⟩), .int .i64 t, .int .i64 b] w fun e w' => e = .returned (.bool true) ∧ Jn w0 w' p c k kc (Ap.ask s t b) := by
  have hbt : badT s t = true := by simp [badT, hw]
  have A := Ask_mid h t b (by omega) (x := 0) (g := false) (er := 120) (by simp [askCell, hbt]) (by simp [askGot, hbt]) (by simp [askErr, hbt])
  have e : Ap.ask s t b = s := by simp [Ap.ask, hbt]
  rw [e] at A ⊢
  clear h e hbt
  go_enter Try.func13, Try.ntmps13
  go_wp2_with fail
  refine A.mono ?_
  rintro e w1 ⟨rfl, qs, ks, i1, i2, i3, i4, i5, i6⟩
  have W := waits_any w1 k kc ks s t i2 i1.ok.ql
  rw [hw] at W
  have J : Jn w0 w1 p c k kc s := ⟨qs, ks, i1, i2, i3, i4, i5, i6⟩
  have HJ := Lib.hid J
  clear A J i1 i2 i3 i4 i5 i6 hw
  go_wp2_with fail
  refine W.mono ?_
  rintro e w2 ⟨rfl, rfl⟩
  clear W
  go_wp2_with fail
  go_ret
  exact ⟨rfl, HJ.out⟩
set_option maxHeartbeats 400000 in
theorem asks_gift {w0 w : World} {p c k kc : Nat} {s : St} (h : Jn w0 w p c k kc s) (inv : Inv s) (t : Nat) (b : Int) (hb : 0 ≤ b ∧ b ≤ 4) (ht : 1 ≤ t ∧ t ≤ 8) (hw : Ap.waits s t = false) (hg : 0 < gift s t) : Calls Try.prog 13 #[.pointer (some ⟨k, 0, none⟩), .pointer (some ⟨p, 0, none⟩), .int .i64 t, .int .i64 b] w fun e w' => e = .returned (.bool true) ∧ Jn w0 w' p c k kc (Ap.ask s t b) := by
  have hbt : badT s t = false := by simp [badT, hw]; omega
  have A := Ask_mid h t b (by omega) (x := gift s t - 1) (g := true) (er := 0) (by simp [askCell, hbt, hg]) (by simp [askGot, hbt, hg]) (by simp [askErr, hbt])
  have e : Ap.ask s t b = { s with gs := s.gs.set t 0, cs := s.cs.set (gift s t - 1).toNat 1 } := by simp [Ap.ask, hbt, hg]
  rw [e] at A ⊢
  have h2 := inv.g1 t (by omega) (by simpa [gift] using hg)
  have hgl := inv.ok.gl
  have gr := inv.ok.gift t (by omega)
  have ln := inv.ok.len
  have eg : s.gs.getD t 0 = gift s t := by simp [gift]
  rw [eg] at h2 gr
  have H2 := Lib.hid h2
  have HGL := Lib.hid hgl
  have EG := Lib.hid eg
  have HW := Lib.hid hw
  clear h e hbt hw h2 hgl eg inv
  generalize gift s t = g at *
  go_enter Try.func13, Try.ntmps13
  go_wp2_with fail
  refine A.mono ?_
  rintro e w1 ⟨rfl, qs, ks, i1, i2, i3, i4, i5, i6⟩
  have hql := i1.ok.ql
  simp only at hql
  have W := waits_any w1 k kc ks s t i2 hql
  rw [HW.out] at W
  obtain ⟨ao, cap, o1, o2, o3, o4, o5, o6, o7, o8, o9, o10⟩ := i2.open
  have g1 := o7 t (by omega)
  rw [EG.out] at g1
  have f1 := o9 (1 + t)
  have I1 := Lib.hid i1
  have I2 := Lib.hid i2
  have I3 := Lib.hid i3
  have I4 := Lib.hid i4
  have I5 := Lib.hid i5
  have I6 := Lib.hid i6
  clear A i1 i2 i3 i4 i5 i6 o1 o2 o3 o4 o5 o6 o7 o8 o9 o10 hql
  go_wp2_with fail
  refine W.mono ?_
  rintro e w2 ⟨rfl, rfl⟩
  clear W
  go_wp2_with fail
  go_ret
  refine ⟨rfl, Mid.done I1.out I2.out I3.out I4.out I5.out I6.out ((Ch.refl [k] w1).setCell ⟨k, 1 + t, none⟩ _ (.inl (by simp))) (by simp) ((I2.out.setG t 0 (-1) (by omega) (by omega) HGL.out).same (g - 1).toNat 1 (by omega) (by rw [H2.out]; omega)) (fun q hq => .inl hq)⟩
set_option maxHeartbeats 400000 in
theorem asks_free {w0 w : World} {p c k kc : Nat} {s : St} (h : Jn w0 w p c k kc s) (inv : Inv s) (t : Nat) (b : Int) (hb : 0 ≤ b ∧ b ≤ 4) (ht : 1 ≤ t ∧ t ≤ 8) (hw : Ap.waits s t = false) (hg : ¬ 0 < gift s t) (hi : 0 ≤ idx 0 s.cs) : Calls Try.prog 13 #[.pointer (some ⟨k, 0, none⟩), .pointer (some ⟨p, 0, none⟩), .int .i64 t, .int .i64 b] w fun e w' => e = .returned (.bool true) ∧ Jn w0 w' p c k kc (Ap.ask s t b) := by
  have hbt : badT s t = false := by simp [badT, hw]; omega
  obtain ⟨F, hF⟩ := Int.eq_ofNat_of_zero_le hi
  have hf := idx0_lt hi
  rw [hF, Int.toNat_natCast] at hf
  have A := Ask_mid h t b (by omega) (x := F) (g := true) (er := 0) (by simp [askCell, hbt, hg, hF]) (by simp [askGot, hbt, hg, hi]) (by simp [askErr, hbt])
  have e : Ap.ask s t b = { s with cs := s.cs.set F 1 } := by simp [Ap.ask, hbt, hg, hF]
  rw [e] at A ⊢
  have hq : s.q = [] := by
    rcases List.eq_nil_or_concat s.q with h | ⟨_, _, h⟩
    · exact h
    · exact absurd hf.2 (inv.qf (by rw [h]; simp) F hf.1)
  have gr := inv.ok.gift t (by omega)
  have ln := inv.ok.len
  have eg : s.gs.getD t 0 = 0 := by have : gift s t = s.gs.getD t 0 := by simp [gift]
                                    omega
  have EG := Lib.hid eg
  have HW := Lib.hid hw
  have HQ := Lib.hid hq
  have HF := Lib.hid hf
  clear h e hbt hw eg inv hg hq hi hF hf gr
  go_enter Try.func13, Try.ntmps13
  go_wp2_with fail
  refine A.mono ?_
  rintro e w1 ⟨rfl, qs, ks, i1, i2, i3, i4, i5, i6⟩
  have hql := i1.ok.ql
  simp only at hql
  have W := waits_any w1 k kc ks s t i2 hql
  rw [HW.out] at W
  obtain ⟨ao, cap, o1, o2, o3, o4, o5, o6, o7, o8, o9, o10⟩ := i2.open
  have g1 := o7 t (by omega)
  rw [EG.out] at g1
  have c1 := o8 F HF.out.1
  rw [HF.out.2] at c1
  have f1 := o10 F
  rw [HQ.out] at o2
  have hlt := HF.out.1
  obtain ⟨L, hL⟩ : ∃ L, L = s.cs.length := ⟨_, rfl⟩
  rw [← hL] at o1 ln hlt
  have I1 := Lib.hid i1
  have I2 := Lib.hid i2
  have I3 := Lib.hid i3
  have I4 := Lib.hid i4
  have I5 := Lib.hid i5
  have I6 := Lib.hid i6
  have ltI : (F : Int) < L := by omega
  clear A i1 i2 i3 i4 i5 i6 o3 o4 o5 o6 o7 o8 o9 o10 hql hL
  simp only [List.length_nil, bne_self_eq_false] at o2 c1
  go_wp2_with fail
  refine W.mono ?_
  rintro e w2 ⟨rfl, rfl⟩
  clear W
  go_wp2_with fail
  go_ret
  refine ⟨rfl, Mid.done I1.out I2.out I3.out I4.out I5.out I6.out ((Ch.refl [kc] w1).setCell ⟨kc, F, none⟩ _ (.inl (by simp))) (by simp) (I2.out.setC F 1 true (by decide)) (fun q hq => .inl hq)⟩
set_option maxHeartbeats 1000000 in
theorem asks_queue {w0 w : World} {p c k kc : Nat} {s : St} (h : Jn w0 w p c k kc s) (inv : Inv s) (t : Nat) (b : Int) (hb : 0 ≤ b ∧ b ≤ 4) (ht : 1 ≤ t ∧ t ≤ 8) (hw : Ap.waits s t = false) (hg : ¬ 0 < gift s t) (hi : ¬ 0 ≤ idx 0 s.cs) : Calls Try.prog 13 #[.pointer (some ⟨k, 0, none⟩), .pointer (some ⟨p, 0, none⟩), .int .i64 t, .int .i64 b] w fun e w' => e = .returned (.bool true) ∧ Jn w0 w' p c k kc (Ap.ask s t b) := by
  have hbt : badT s t = false := by simp [badT, hw]; omega
  have hf := idx0_none hi
  obtain ⟨i0, hi0, hz0, hz1, hz2⟩ := info_parts infoW
  have A := Ask_mid h t b (by omega) (x := 0) (g := false) (er := 0) (by simp [askCell, hbt, hg, hi]) (by simp [askGot, hbt, hg, hi]) (by simp [askErr, hbt])
  have e : Ap.ask s t b = { s with q := s.q ++ [((t : Int), b)] } := by simp [Ap.ask, hbt, hg, hi]
  rw [e] at A ⊢
  have gr := inv.ok.gift t (by omega)
  have ln := inv.ok.len
  have hql := inv.ok.ql
  have eg : s.gs.getD t 0 = 0 := by have : gift s t = s.gs.getD t 0 := by simp [gift]
                                    omega
  have EG := Lib.hid eg
  have HW := Lib.hid hw
  have HF := Lib.hid hf
  clear h e hbt hw eg inv hg hi hf gr
  go_enter Try.func13, Try.ntmps13
  go_wp2_with fail
  refine A.mono ?_
  rintro e w1 ⟨rfl, qs, ks, i1, i2, i3, i4, i5, i6⟩
  have W := waits_any w1 k kc ks s t i2 hql
  rw [HW.out] at W
  obtain ⟨ao, cap, o1, o2, o3, o4, o5, o6, o7, o8, o9, o10⟩ := i2.open
  have g1 := o7 t (by omega)
  rw [EG.out] at g1
  have f1 := o9 10
  have hkl := i2.lt.1
  have hklt : k < w1.heap.size := hkl
  have O8 := Lib.hid (fun j (hj : j < s.cs.length) => (o8 j hj).trans (show _ = some (Value.bool true) by rw [show (s.cs.getD j 0 != 0) = true by simpa using HF.out j hj]))
  have O3 := Lib.hid o3
  obtain ⟨L, hL⟩ : ∃ L, L = s.cs.length := ⟨_, rfl⟩
  obtain ⟨N, hN⟩ : ∃ N, N = s.q.length := ⟨_, rfl⟩
  rw [← hL] at o1 ln
  rw [← hN] at o2 hql
  have HL := Lib.hid hL
  have HN := Lib.hid hN
  have I1 := Lib.hid i1
  have I2 := Lib.hid i2
  have I3 := Lib.hid i3
  have I4 := Lib.hid i4
  have I5 := Lib.hid i5
  have I6 := Lib.hid i6
  clear A i1 i2 i3 i4 i5 i6 o3 o4 o5 o6 o7 o8 o9 o10 hL hN hkl
  simp only [Int.zero_sub] at g1
  go_wp2_with fail
  refine W.mono ?_
  rintro e w2 ⟨rfl, rfl⟩
  clear W
  go_wp2_with fail
  go_loop [14] (fun i => ∃ m : Nat, m ≤ L ∧ i = .int .i64 m) (fun i => L - (intOf i).toNat)
  case atStart => exact ⟨0, by omega, rfl⟩
  case round =>
    obtain ⟨m, hm, rfl⟩ := hrel
    by_cases hlt : m < L
    · have c1 := O8.out m (by rw [← HL.out]; exact hlt)
      have ltI : (m : Int) < L := by omega
      go_wp2_with fail
      go_round
      case rel => exact ⟨m + 1, by omega, by go_num⟩
      case measure => simp [intOf]; omega
    · obtain rfl : m = L := by omega
      have hr := O3.out
      rw [← HN.out] at hr
      have R1 := Lib.hid (hr.ch ((Ch.refl [] w1).alloc (.cells #[.int .i64 t, .int .i64 b] 101)) (by simp))
      have HN1 := Lib.hid (newL (w := w1) (b := w1.heap.size) rfl [.int .i64 t, .int .i64 b] 101)
      have O2 := Lib.hid o2
      have F1 := Lib.hid f1
      clear hr f1
      go_wp2_with (at_builtin; refine wpList_append_row _ rfl _ _ 60 rfl 101 i0 (.agg #[.int .i64 0, .int .i64 0]) 2 16 Try.underlying60 hi0 hz0 hz1 hz2 rfl (by decide) rfl R1.out ⟨w1.heap.size, 0, none⟩ 1 1 [.int .i64 t, .int .i64 b] rfl rfl HN1.out (one2 _ _ _ _) (by unfold maxLen; omega) (by omega) ?_)
      intro v' w3 qs' hr4 hc4 hq4
      have CA : Ch [] w1 (w1.alloc (.cells #[.int .i64 t, .int .i64 b] 101)) := (Ch.refl _ _).alloc _
      have kn : k ∉ ks := fun hm => (I2.out.qne k hm).1 rfl
      have kcn : kc ∉ ks := fun hm => (I2.out.qne kc hm).2.1 rfl
      have C3 : Ch ks w1 w3 := (CA.mono (by simp)).trans' hc4
      have o2' := C3.cell O2.out kn
      have f1' := (C3.frozen (p := ⟨k, 10, none⟩) hklt kn).trans F1.out
      obtain ⟨ao', cap', rfl, _⟩ := hr4.rd
      have HR4 := Lib.hid hr4
      have hq5 : News ks qs' (w1.alloc (.cells #[.int .i64 t, .int .i64 b] 101)) w3 := by unfold News; simpa using hq4
      have HQ4 := Lib.hid hq5
      have HC3 := Lib.hid C3
      have HKN := Lib.hid kn
      have HKCN := Lib.hid kcn
      clear hr4 hc4 hq4 hq5 C3 kn kcn CA R1 o2
      go_wp2_with fail
      go_ret
      have hsz := HC3.out.size
      obtain ⟨⟨qv, hd, _⟩, hqne⟩ := I2.out
      have hd3 := hd.ch HC3.out HKN.out HKCN.out
      have hk3 := I2.out.lt
      have hqn : ∀ q ∈ qs', q ≠ k ∧ q ≠ kc ∧ q < w3.heap.size := fun q hq => by
        rcases HQ4.out.mem hq with h | h
        · have := hqne q h; exact ⟨this.1, this.2.1, by omega⟩
        · simp at h; omega
      have hl : (s.q ++ [((t : Int), b)]).length = N + 1 := by rw [List.length_append, ← HN.out]; rfl
      have hr5 := HR4.out
      have hKs := Ks.mkQ hd3 (.slice ao' (N + 1) cap') (s.q ++ [((t : Int), b)]) (by rw [hl, wcells_append]; exact hr5) hqn
      refine ⟨rfl, Mid.done I1.out I2.out I3.out I4.out I5.out I6.out ((HC3.out.mono (T := k :: ks) (fun x hx => by simp [hx])).setCell ⟨k, 10, none⟩ _ (.inl (by simp))) (fun x hx => ?_) hKs (fun q hq => ?_)⟩
      · rcases List.mem_cons.1 hx with rfl | hx
        · simp
        · simp [hx]
      · rcases HQ4.out.mem hq with h | h
        · exact .inl h
        · simp at h; right; omega

theorem asks_any {w0 w : World} {p c k kc : Nat} {s : St} (h : Jn w0 w p c k kc s) (inv : Inv s) (t : Nat) (b : Int) (hb : 0 ≤ b ∧ b ≤ 4) (ht : 1 ≤ t ∧ t ≤ 8) : Calls Try.prog 13 #[.pointer (some ⟨k, 0, none⟩), .pointer (some ⟨p, 0, none⟩), .int .i64 t, .int .i64 b] w fun e w' => e = .returned (.bool true) ∧ Jn w0 w' p c k kc (Ap.ask s t b) := by
  cases hw : Ap.waits s t
  · by_cases hg : 0 < gift s t
    · exact asks_gift h inv t b hb ht hw hg
    · by_cases hi : 0 ≤ idx 0 s.cs
      · exact asks_free h inv t b hb ht hw hg hi
      · exact asks_queue h inv t b hb ht hw hg hi
  · exact asks_waits h t b hb ht hw
end Go.Proofs.Ytdncodandmjknaa.Kp
