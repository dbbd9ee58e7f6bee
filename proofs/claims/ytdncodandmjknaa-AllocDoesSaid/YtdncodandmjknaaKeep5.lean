/-
  THE WALK of AllocKeeps: its loop.
-/
import Derived.Test.YtdncodandmjknaaKeep4
import Derived.Deep.DeepCutAuto
import Derived.Deep.CutBlock
import Derived.StillTailTactics
import Derived.Deep.RegionWith
set_option linter.unusedVariables false
set_option linter.unusedSimpArgs false
set_option maxRecDepth 100000
namespace Go.Proofs.Ytdncodandmjknaa.Kp
open Go.RowKit Go.Proofs.Ytdncodandmjknaa.Hp Go.Proofs.Ytdncodandmjknaa.Sm Go.Proofs.Ytdncodandmjknaa.Ap Go.Proofs.Ytdncodandmjknaa.Al Go.Proofs.Ytdncodandmjknaa.L12

def pickV (c : Int) (n : Nat) : Nat := ((if c < 0 then -(c + 1) else c).tmod n).toNat
theorem pickV_lt (c : Int) (n : Nat) (hn : 1 ≤ n) : pickV c n < n ∧ (if c < 0 then -(c + 1) else c).tmod n = pickV c n := by
  unfold pickV
  have h1 : 0 ≤ (if c < 0 then -(c + 1) else c) := by split <;> omega
  generalize (if c < 0 then -(c + 1) else c) = d at *
  have h2 := Int.tmod_lt_of_pos d (b := (n : Int)) (by omega)
  have h3 := Int.tmod_nonneg (n : Int) h1
  omega
theorem pick_any (w : World) (c : Int) (n : Nat) (hc : -9223372036854775808 ≤ c ∧ c ≤ 9223372036854775807) (hn : 1 ≤ n ∧ n ≤ 4096) :
    Calls Try.prog 12 #[.int .i64 c, .int .i64 n] w fun e w' => e = .returned (.int .i64 (pickV c n)) ∧ w' = w := by
  have hn0 : ¬ (n : Int) = 0 := by omega
  have hm := (pickV_lt c n hn.1).2
  generalize pickV c n = m at *
  by_cases h : c < 0
  · rw [if_pos h] at hm
    go_enter Try.func12, Try.ntmps12
    go_wp2_with fail
    go_ret
    exact ⟨rfl, rfl⟩
  · rw [if_neg h] at hm
    go_enter Try.func12, Try.ntmps12
    go_wp2_with fail
    go_ret
    exact ⟨rfl, rfl⟩

theorem infoBool : (Try.prog.info? 4).map (fun i => (i.zero, i.size, i.bytes)) = some (some (.bool false), 1, 1) := by kernel_rfl
theorem run_make_bools (w : World) (n : Nat) (h : n ≤ 4096) : (Instr.makeSlice 58 (.int .i64 (n : Int)) (.int .i64 (n : Int))).run Try.prog w = .ok (.slice (some ⟨w.heap.size, 0, none⟩) n n) (w.alloc (.cells (whoV (List.replicate n 0)).toArray 4)) := by
  obtain ⟨i, hi, he⟩ := Option.map_eq_some_iff.1 infoBool
  simp only [Prod.mk.injEq] at he
  obtain ⟨e1, e2, e3⟩ := he
  have := run_make (P := Try.prog) w 58 4 i _ Try.underlying58 hi e1 .i64 .i64 n n (by omega) (by omega) (by rw [e3]; omega) (by omega)
  rw [this, e2]
  have e4 : (Value.bool false).cells = #[.bool false] := rfl
  simp only [Int.toNat_natCast]
  rw [e4]
  have : madeCells #[.bool false] (n * 1) = (whoV (List.replicate n 0)).toArray := by
    apply Array.ext
    · simp [madeCells, whoV]
    · intro i h1 h2
      simp [madeCells, whoV, Nat.mod_one]
  rw [this]

structure OpV where
  kd : Int
  a : Int
  b : Int
def opc (x : OpV) : Array Value := #[.int .i64 x.kd, .int .i64 x.a, .int .i64 x.b]
def I64 (x : Int) : Prop := -9223372036854775808 ≤ x ∧ x ≤ 9223372036854775807
def OpIn (x : OpV) : Prop := I64 x.kd ∧ I64 x.a ∧ I64 x.b

/-- The keeper while it is made. -/
def KI (w : World) (k kc n t : Nat) : Prop := ∃ arr, w.heap[k]? = some (.cells arr 62 (0, 0)) ∧ arr.size = 11 ∧ arr[0]? = some (.slice (some ⟨kc, 0, none⟩) n n) ∧ (∀ j, j < t → j < 9 → arr[1 + j]? = some (.int .i64 (-1))) ∧ (∀ j, j < 9 → ∃ v, arr[1 + j]? = some (.int .i64 v)) ∧ arr[10]? = some (.slice none 0 0) ∧
  w.heap[kc]? = some (.cells (whoV (List.replicate n 0)).toArray 4 (0, 0)) ∧ k ≠ kc
theorem KI.step {w : World} {k kc n t : Nat} (h : KI w k kc n t) (ht : t < 9) : KI (w.setCell ⟨k, 1 + t, none⟩ (.int .i64 (-1))) k kc n (t + 1) := by
  obtain ⟨arr, h1, h2, h3, h4, h5, h6, h7, h8⟩ := h
  refine ⟨_, heap_set h1 _, by simpa using h2, ?_, fun j hj hj9 => ?_, fun j hj => ?_, ?_, (heap_set_ne (fun e => h8 e.symm)).trans h7, h8⟩
  · rw [Array.getElem?_setIfInBounds_ne (by omega)]; exact h3
  · by_cases e : j = t
    · subst e; exact Array.getElem?_setIfInBounds_self_of_lt (by omega)
    · rw [Array.getElem?_setIfInBounds_ne (by omega)]; exact h4 j (by omega) hj9
  · by_cases e : j = t
    · subst e; exact ⟨_, Array.getElem?_setIfInBounds_self_of_lt (by omega)⟩
    · rw [Array.getElem?_setIfInBounds_ne (by omega)]; exact h5 j hj
  · rw [Array.getElem?_setIfInBounds_ne (by omega)]; exact h6
theorem KI.ks {w : World} {k kc n : Nat} (h : KI w k kc n 9) : Ks w k kc [] (new n) := by
  obtain ⟨arr, h1, h2, h3, h4, h5, h6, h7, h8⟩ := h
  have hr : ∀ m t : Nat, (List.replicate m (0 : Int)).getD t 0 = 0 := by
    intro m t; rw [List.getD_eq_getElem?_getD, List.getElem?_replicate]; split <;> rfl
  exact ⟨⟨_, ⟨⟨arr, h1, h2, by simpa [new] using h3, fun i hi => by
    have e : (new n).gs.getD i 0 = 0 := hr 9 i
    rw [e]; exact h4 i hi hi, h6⟩, h7, h8⟩, Row.nil _ _ _ _⟩, fun q hq => by cases hq⟩

theorem freeTo_pre (s : St) (k : Nat) : ∀ n, k ≤ n → ∃ t, freeTo s n = freeTo s k ++ t
  | 0, h => by obtain rfl : k = 0 := by omega
               exact ⟨[], by simp⟩
  | n + 1, h => by
    by_cases e : k = n + 1
    · subst e; exact ⟨[], by simp⟩
    · obtain ⟨t, ht⟩ := freeTo_pre s k n (by omega)
      cases hv : (s.cs.getD n 0 == 0)
      · exact ⟨t, by rw [freeTo_miss hv, ht]⟩
      · exact ⟨t ++ [(n : Int)], by rw [freeTo_hit (by simpa using hv), ht, List.append_assoc]⟩
theorem ask_len (s : St) (t b : Int) : (Ap.ask s t b).cs.length = s.cs.length := by
  unfold Ap.ask
  split
  · rfl
  · split
    · simp
    · split <;> simp
theorem back_len (s : St) (t : Int) : (Ap.back s t).cs.length = s.cs.length := by
  unfold Ap.back
  split
  · rfl
  · split <;> simp
set_option maxHeartbeats 4000000 in
theorem AllocKeeps_any (w : World) (size : Int) (hs : I64 size) (bo : Option Addr) (bm bcap : Nat) (ops : List OpV) (hb : bm = 0 ∨ ∃ b off, bo = some ⟨b, off, none⟩ ∧ ∀ j t, j < bm → t < 3 → w.cell? ⟨b, off + (j * 3 + t), none⟩ = (opc (ops.getD j ⟨0, 0, 0⟩)).toList[t]?) (hop : ∀ j, j < bm → OpIn (ops.getD j ⟨0, 0, 0⟩)) :
    Calls Try.prog 5 #[.int .i64 size, .slice bo bm bcap] w fun e w' => e = .returned (.bool true) ∧ Ch [] w w' := by
  have HB := Lib.hid hb
  have HOP := Lib.hid hop
  have hpk := pickV_lt size 12 (by omega)
  have hp := pick_any
  have HP := Lib.hid hp
  have P1 : ∀ w, _ := fun w => pick_any w size 12 hs (by omega)
  have HS := Lib.hid hs
  clear hb hop hs hp
  have hpk' := hpk.1
  clear hpk
  generalize pickV size 12 = m0 at *
  by_cases hbig : 3000 < bm
  · clear P1
    go_enter Try.func5, Try.ntmps5
    go_wp2_with fail
    refine (works_any w).mono ?_
    rintro e w1 ⟨rfl, c1⟩
    have C1 := Lib.hid c1
    clear c1
    go_wp2_with fail
    go_ret
    exact ⟨rfl, C1.out⟩
  · have hb0 : decide ((3000 : Int) < bm) = false := by simp; omega
    go_enter Try.func5, Try.ntmps5
    go_wp2_with fail
    refine (works_any w).mono ?_
    rintro e w1 ⟨rfl, c1⟩
    have C1 := Lib.hid c1
    clear c1
    go_wp2_with fail
    refine (P1 w1).mono ?_
    rintro e w2 ⟨rfl, rfl⟩
    clear P1
    obtain ⟨n, hn⟩ : ∃ n, n = 4 + m0 := ⟨_, rfl⟩
    have e4 : (4 : Int) + m0 = (n : Int) := by omega
    have hn4 : 4 ≤ n ∧ n ≤ 15 := by omega
    have NW := New_own w2 n (by omega) (by omega)
    clear hn
    go_wp2_with fail
    refine NW.mono ?_
    rintro e w3 ⟨p, c, rfl, own⟩
    obtain ⟨qs, i1, i2, i3, i4, i5⟩ := own
    have hmk : ∀ w : World, _ := fun w => run_make_bools w n (by omega)
    have OW := Lib.hid (And.intro i1 (And.intro i2 (And.intro i3 (And.intro i4 i5))))
    clear NW i1 i2 i3 i4 i5
    go_wp2_with fail
    have CA : Ch [] w3 ((w3.alloc (.cells (whoV (List.replicate n 0)).toArray 4)).alloc (.cells #[.slice (some ⟨w3.heap.size, 0, none⟩) n n, .int .i64 0, .int .i64 0, .int .i64 0, .int .i64 0, .int .i64 0, .int .i64 0, .int .i64 0, .int .i64 0, .int .i64 0, .slice none 0 0] 62)) := ((Ch.refl _ _).alloc _).alloc _
    have KK : KI ((w3.alloc (.cells (whoV (List.replicate n 0)).toArray 4)).alloc (.cells #[.slice (some ⟨w3.heap.size, 0, none⟩) n n, .int .i64 0, .int .i64 0, .int .i64 0, .int .i64 0, .int .i64 0, .int .i64 0, .int .i64 0, .int .i64 0, .int .i64 0, .slice none 0 0] 62)) (w3.heap.size + 1) w3.heap.size n 0 := by
      have hh := heap_new (w3.alloc (.cells (whoV (List.replicate n 0)).toArray 4)) (.cells #[.slice (some ⟨w3.heap.size, 0, none⟩) n n, .int .i64 0, .int .i64 0, .int .i64 0, .int .i64 0, .int .i64 0, .int .i64 0, .int .i64 0, .int .i64 0, .int .i64 0, .slice none 0 0] 62)
      rw [show (w3.alloc (.cells (whoV (List.replicate n 0)).toArray 4)).heap.size = w3.heap.size + 1 by simp] at hh
      refine ⟨_, hh, rfl, rfl, fun j hj => absurd hj (by omega), fun j hj => ⟨0, ?_⟩, rfl, heap_old (heap_new w3 _), by omega⟩
      have : j = 0 ∨ j = 1 ∨ j = 2 ∨ j = 3 ∨ j = 4 ∨ j = 5 ∨ j = 6 ∨ j = 7 ∨ j = 8 := by omega
      rcases this with rfl | rfl | rfl | rfl | rfl | rfl | rfl | rfl | rfl <;> rfl
    generalize ((w3.alloc (.cells (whoV (List.replicate n 0)).toArray 4)).alloc (.cells #[.slice (some ⟨w3.heap.size, 0, none⟩) n n, .int .i64 0, .int .i64 0, .int .i64 0, .int .i64 0, .int .i64 0, .int .i64 0, .int .i64 0, .int .i64 0, .int .i64 0, .slice none 0 0] 62)) = w4 at *
    have HCA := Lib.hid CA
    have HKK := Lib.hid KK
    obtain ⟨kc, hkc⟩ : ∃ kc, kc = w3.heap.size := ⟨_, rfl⟩
    have HKC := Lib.hid hkc
    clear CA KK hmk
    rw [← hkc] at HKK ⊢
    clear hkc
    go_loopw [10] (fun i wr => ∃ t : Nat, t ≤ 9 ∧ i = .int .i64 t ∧ KI wr (kc + 1) kc n t ∧ Ch [kc + 1] w4 wr) (fun i _ => 9 - (intOf i).toNat)
    case atStart => exact ⟨0, by omega, rfl, HKK.out, Ch.refl _ _⟩
    case round =>
      obtain ⟨t, ht, rfl, hki, hch⟩ := hrel
      have HKI := Lib.hid hki
      have HCH := Lib.hid hch
      by_cases hlt : t < 9
      · obtain ⟨arr, h1, h2, h3, h4, h5, h6, h7, h8⟩ := hki
        obtain ⟨v, hv⟩ := h5 t hlt
        have k1 := (cell_at (i := 1 + t) h1).trans hv
        have f1 := free_at (i := 1 + t) h1
        clear h1 h2 h3 h4 h5 h6 h7 h8 hch hv HKK
        go_wp2_with fail
        go_roundw
        case rel => exact ⟨t + 1, by omega, by go_num, HKI.out.step hlt, HCH.out.setCell _ _ (.inl (by simp))⟩
        case measure => simp [intOf]; omega
      · obtain rfl : t = 9 := by omega
        have jn : Jn w wr p c (kc + 1) kc (new n) := by
          obtain ⟨i1, i2, i3, i4, i5⟩ := OW.out
          have hw2 := C1.out.size
          have hkc := HKC.out
          have hlt := i1.lt
          have hsz : w2.heap.size ≤ kc := by have := i2.size; omega
          have c4 : Ch [kc + 1] w3 wr := (HCA.out.mono (by simp)).trans' HCH.out
          have hqq := i1.qne
          refine ⟨qs, [], i1.ch c4 (by simp; omega) (by simp; omega) (fun q hq => by have := hqq q hq; simp; omega), HKI.out.ks, (C1.out.trans i2 (fun x hx => by cases hx)).trans c4 (fun x hx => by simp at hx; right; omega), ?_, ?_, ?_⟩
          · intro x hx
            rcases List.mem_cons.1 hx with rfl | hx
            · omega
            rcases List.mem_cons.1 hx with rfl | hx
            · omega
            · have := i5 x hx; omega
          · intro x hx; simp at hx; omega
          · intro x hx hm
            simp at hm
            rcases List.mem_cons.1 hx with rfl | hx
            · omega
            rcases List.mem_cons.1 hx with rfl | hx
            · omega
            · have := hqq x hx; omega
        have ok0 := Inv.new n (new_ok n (by omega) (by omega))
        have HJ := Lib.hid jn
        have HI0 := Lib.hid ok0
        clear hki hch jn ok0 HKI HCH HKK HCA OW C1 HKC
        go_wp2_with fail
        obtain ⟨wo, rfl⟩ : ∃ wo : World, wo = wr := ⟨_, rfl⟩
        rw [show ((9 : Nat) : Int) = 9 from rfl]
        go_loopw [11] (fun i wr => ∃ (j : Nat) (s : St), j ≤ bm ∧ i = .int .i64 j ∧ Jn w wr p c (kc + 1) kc s ∧ Inv s ∧ s.cs.length = n) (fun i _ => bm - (intOf i).toNat)
        case atStart => exact ⟨0, new n, by omega, rfl, HJ.out, HI0.out, by simp [new]⟩
        case round =>
          obtain ⟨j, s, hj, rfl, jn, inv, hln⟩ := hrel
          have JN := Lib.hid jn
          have INV := Lib.hid inv
          have HLN := Lib.hid hln
          by_cases hlt : j < bm
          · obtain ⟨bb, boff, rfl, hbc⟩ := HB.out.resolve_left (by omega)
            have hch : Ch [] w wr := by obtain ⟨_, _, _, _, h, _⟩ := jn; exact h
            have hA : ∀ t, t < 3 → wr.cell? ⟨bb, boff + (j * 3 + t), none⟩ = (opc (ops.getD j ⟨0, 0, 0⟩)).toList[t]? := fun t ht => by
              have h := hbc j t hlt ht
              have hs : ∃ u, (opc (ops.getD j ⟨0, 0, 0⟩)).toList[t]? = some u := ⟨_, List.getElem?_eq_getElem (by simp [opc]; omega)⟩
              obtain ⟨u, hu⟩ := hs
              rw [hu] at h ⊢
              exact hch.cell h (by simp)
            have hopi := HOP.out j hlt
            generalize ops.getD j ⟨0, 0, 0⟩ = x at *
            obtain ⟨kd, oa, ob⟩ := x
            have a0 := hA 0 (by omega)
            have a1 := hA 1 (by omega)
            have a2 := hA 2 (by omega)
            simp only [opc, List.getElem?_cons_zero, List.getElem?_cons_succ, Nat.add_zero, ← Nat.add_assoc] at a0 a1 a2
            have HOI := Lib.hid hopi
            have ltI : (j : Int) < bm := by omega
            have hal : Ch [] wr (wr.alloc (.cells #[.int .i64 kd, .int .i64 oa, .int .i64 ob] 53)) := (Ch.refl _ _).alloc _
            have JZ := Lib.hid (JN.out.ch hal)
            clear hA hbc HB hopi hch jn inv hln hal JN HOP HJ HI0
            go_upto_block 4 with (go_at_call 12; refine (HP.out _ kd 8 HOI.out.1 (by omega)).mono ?_; rintro e w' ⟨rfl, rfl⟩)
            have hm := (pickV_lt kd 8 (by omega)).1
            have z0 : (wr.alloc (.cells #[.int .i64 kd, .int .i64 oa, .int .i64 ob] 53)).cell? ⟨wr.heap.size, 1, none⟩ = some (.int .i64 oa) := by go_simp
            have z1 : (wr.alloc (.cells #[.int .i64 kd, .int .i64 oa, .int .i64 ob] 53)).cell? ⟨wr.heap.size, 2, none⟩ = some (.int .i64 ob) := by go_simp
            generalize wr.alloc (.cells #[.int .i64 kd, .int .i64 oa, .int .i64 ob] 53) = wz at *
            generalize pickV kd 8 = m at *
            generalize wr.heap.size = bo' at *
            clear a0 a1 a2
            go_cut [13] (fun ok wx => ok = .bool true ∧ ∃ s' : St, Jn w wx p c (kc + 1) kc s' ∧ Inv s' ∧ s'.cs.length = n)
            case first =>
              have hm8 : m = 0 ∨ m = 1 ∨ m = 2 ∨ m = 3 ∨ m = 4 ∨ m = 5 ∨ m = 6 ∨ m = 7 := by omega
              clear hm
              rcases hm8 with rfl | rfl | rfl | rfl | rfl | rfl | rfl | rfl
              iterate 4
                · go_wp2_with fail
                  have PA := HP.out wz.drew oa 8 HOI.out.2.1 (by omega)
                  have PB := HP.out wz.drew ob 5 HOI.out.2.2 (by omega)
                  have hA := (pickV_lt oa 8 (by omega)).1
                  have hB := (pickV_lt ob 5 (by omega)).1
                  generalize pickV oa 8 = ma at *
                  generalize pickV ob 5 = mb at *
                  refine wp_region_still_tail 9 (by kernel_rfl) (by kernel_rfl) ?_
                  simp only [List.take_succ_cons, List.take_zero, List.drop_succ_cons, List.drop_zero]
                  (iterate 4 still_step)
                  still_call PA
                  (iterate 3 still_step)
                  still_call PB
                  refine wpStill_nil ?_
                  change wpList _ _ _ _ _ wz.drew
                  obtain ⟨ta, hta⟩ : ∃ ta, ta = 1 + ma := ⟨_, rfl⟩
                  have eta : (1 : Int) + ma = (ta : Int) := by omega
                  have hta8 : 1 ≤ ta ∧ ta ≤ 8 := by omega
                  have JD : Jn w wz.drew p c (kc + 1) kc s := JZ.out.ch ((Ch.refl [] wz).drew)
                  have AA := asks_any JD INV.out ta mb (by omega) hta8
                  clear PA PB hta JD
                  go_wp2_with fail
                  refine AA.mono ?_
                  rintro e w5 ⟨rfl, j5⟩
                  have J5 := Lib.hid j5
                  clear AA j5
                  go_wp2_with fail
                  go_meet
                  case rel => exact ⟨rfl, _, J5.out, INV.out.ask _ _ (by omega), by rw [← HLN.out]; exact ask_len _ _ _⟩
              iterate 3
                · have PA := HP.out wz oa n HOI.out.2.1 (by omega)
                  have hA := (pickV_lt oa n (by omega)).1
                  generalize pickV oa n = ma at *
                  have AA := backs_any JZ.out INV.out ma (by rw [HLN.out]; exact hA)
                  go_wp2_with fail
                  refine PA.mono ?_
                  rintro e w5 ⟨rfl, rfl⟩
                  clear PA
                  go_wp2_with fail
                  refine AA.mono ?_
                  rintro e w6 ⟨rfl, j5⟩
                  have J5 := Lib.hid j5
                  clear AA j5
                  go_wp2_with fail
                  go_meet
                  case rel => exact ⟨rfl, _, J5.out, INV.out.back _, by rw [← HLN.out]; exact back_len _ _⟩
              · go_wp2_with fail
                have PA := HP.out wz.drew oa 5 HOI.out.2.1 (by omega)
                have PB := HP.out wz.drew ob 2 HOI.out.2.2 (by omega)
                generalize pickV oa 5 = ma at *
                generalize pickV ob 2 = mb at *
                refine wp_region_still_tail 8 (by kernel_rfl) (by kernel_rfl) ?_
                simp only [List.take_succ_cons, List.take_zero, List.drop_succ_cons, List.drop_zero]
                (iterate 4 still_step)
                still_call PA
                (iterate 2 still_step)
                still_call PB
                refine wpStill_nil ?_
                change wpList _ _ _ _ _ wz.drew
                have JD : Jn w wz.drew p c (kc + 1) kc s := JZ.out.ch ((Ch.refl [] wz).drew)
                have AA := ends_any JD INV.out ma mb
                clear PA PB JD
                go_wp2_with fail
                refine AA.mono ?_
                rintro e w5 ⟨rfl, j5⟩
                have J5 := Lib.hid j5
                clear AA j5
                go_wp2_with fail
                go_meet
                case rel => exact ⟨rfl, _, J5.out, INV.out.finish _ _, by rw [← HLN.out]; unfold Ap.finish; split <;> simp⟩
            case rest =>
              obtain ⟨rfl, s', j1, j2, j3⟩ := hcut
              have J1 := Lib.hid j1
              have J2 := Lib.hid j2
              have J3 := Lib.hid j3
              clear j1 j2 j3 JZ INV HLN HOI
              go_wp2_with fail
              go_roundw
              case rel => exact ⟨j + 1, s', by omega, by go_num, J1.out, J2.out, J3.out⟩
              case measure => simp [intOf]; omega
          · obtain rfl : j = bm := by omega
            obtain ⟨qs', ks, i1, i2, i3, i4, i5, i6⟩ := jn
            have FR := Free_any wr p c qs' s i1
            have hq8 := i1.ok.ql
            have hqf := inv.qf
            have HQF := Lib.hid hqf
            have I1 := Lib.hid i1
            have I2 := Lib.hid i2
            have I3 := Lib.hid i3
            clear i1 i2 i3 i4 i5 i6 hqf inv hln JN HJ HI0 HB HOP INV
            go_wp2_with fail
            refine FR.mono ?_
            rintro e w5 ⟨v, rs, rfl, f1, f2, f3⟩
            obtain ⟨al, capl, rfl, _, _, hrd⟩ := f1.rd
            obtain ⟨hll, hrc⟩ := rd_ints (by simpa using hrd)
            have k5 := I2.out.ch f2 (by simp) (by simp) (by simp)
            have a5 := I1.out.ch f2 (by simp) (by simp) (by simp)
            have W5 := Waiting_any w5.drew p c qs' s (a5.ch ((Ch.refl [] w5).drew) (by simp) (by simp) (by simp))
            obtain ⟨ao, cap, o1, o2, o3, o4, o5, o6, o7, o8, o9, o10⟩ := k5.open
            rw [HLN.out] at o1 o8
            have ef : freeL s = freeTo s n := by rw [← HLN.out]; rfl
            have HEF := Lib.hid ef
            have hLn : (freeL s).length ≤ n := by rw [ef]; exact freeTo_le s n
            have HRD : Hid (∀ m, m < (freeL s).length → ∃ b off, al = some ⟨b, off, none⟩ ∧ w5.cell? ⟨b, off + m, none⟩ = some (.int .i64 ((freeL s).getD m 0))) := by
              intro m hm
              rcases hrc with h0 | ⟨b, off, ha, hc⟩
              · omega
              · exact ⟨b, off, ha, hc m hm⟩
            have hN : ∃ N, N = s.q.length := ⟨_, rfl⟩
            obtain ⟨N, hN⟩ := hN
            rw [← hN] at o2 o6 W5 hq8
            have O8 := Lib.hid o8
            have O6 := Lib.hid o6
            have HW5 := Lib.hid W5
            have HN := Lib.hid hN
            have F2 := Lib.hid f2
            generalize hLL : (freeL s).length = LL at *
            have HLL := Lib.hid hLL
            clear FR f1 f2 f3 hrd hll hrc k5 a5 W5 o3 o4 o5 o6 o7 o8 o9 o10 hN hLL ef I1 I2
            go_wp2_with fail
            go_loop [15, 16] (fun m i => ∃ k : Nat, k ≤ n ∧ i = .int .i64 k ∧ m = .int .i64 ((freeTo s k).length)) (fun _ i => n - (intOf i).toNat)
            case atStart => exact ⟨0, by omega, rfl, rfl⟩
            case round =>
              obtain ⟨k, hk, rfl, rfl⟩ := hrel
              have hle := freeTo_le s k
              by_cases hlt : k < n
              · have c1 := O8.out k hlt
                have hltI : (k : Int) < n := by omega
                cases hv : (s.cs.getD k 0 != 0)
                · rw [hv] at c1
                  have h0 : s.cs.getD k 0 = 0 := by simpa using hv
                  have e1 := freeTo_hit h0
                  obtain ⟨t, ht⟩ := freeTo_pre s (k + 1) n (by omega)
                  have hlen : (freeTo s k).length < LL := by rw [← HLL.out, HEF.out, ht, e1]; simp
                  have hget : (freeL s).getD (freeTo s k).length 0 = k := by rw [HEF.out, ht, e1]; simp [List.getD_eq_getElem?_getD, List.getElem?_append]
                  obtain ⟨bl, ofl, rfl, hcl⟩ := HRD.out _ hlen
                  rw [hget] at hcl
                  have E1 := Lib.hid e1
                  clear hget ht e1 h0 hv
                  generalize hm : (freeTo s k).length = m at *
                  have HM := Lib.hid hm
                  clear hm
                  have hlenI : (m : Int) < LL := by omega
                  have hlenB : decide ((LL : Int) ≤ m) = false := by simp; omega
                  go_wp2_with fail
                  go_round
                  case rel => exact ⟨k + 1, by omega, by go_num, by rw [E1.out, List.length_append, HM.out]; rfl⟩
                  case measure => simp [intOf]; omega
                · rw [hv] at c1
                  have h0 : (s.cs.getD k 0 == 0) = false := by simpa using hv
                  have E1 := Lib.hid (freeTo_miss h0)
                  clear h0 hv
                  generalize hm : (freeTo s k).length = m at *
                  have HM := Lib.hid hm
                  clear hm
                  go_wp2_with fail
                  go_round
                  case rel => exact ⟨k + 1, by omega, by go_num, by rw [E1.out, HM.out]⟩
                  case measure => simp [intOf]; omega
              · obtain rfl : k = n := by omega
                rw [show (freeTo s k).length = LL by rw [← HEF.out]; exact HLL.out]
                have hor : LL = 0 ∨ N = 0 := by
                  rcases Nat.eq_zero_or_pos LL with h | h
                  · exact .inl h
                  · right
                    rcases Nat.eq_zero_or_pos N with h2 | h2
                    · exact h2
                    · exfalso
                      have hne : s.q ≠ [] := by intro e; have := HN.out; rw [e] at this; simp at this; omega
                      have hf := HQF.out hne
                      have hmem : ∃ x, x ∈ freeL s := List.exists_mem_of_length_pos (by rw [HLL.out]; exact h)
                      obtain ⟨x, hx⟩ := hmem
                      unfold freeL at hx
                      simp only [List.mem_map, List.mem_filter, List.mem_range, beq_iff_eq] at hx
                      obtain ⟨y, ⟨hy1, hy2⟩, _⟩ := hx
                      exact hf y hy1 hy2
                have HC : Hid (Ch [] w w5) := Lib.hid (I3.out.trans' F2.out)
                clear hle O8 HRD HLL HEF HQF F2 I3
                go_wp2_with fail
                go_region_with (first
                  | (go_at_call 18; refine HW5.out.mono ?_; rintro e w6 ⟨v, rs2, rfl, g1, g2, g3⟩; obtain ⟨av, capv, rfl, _, _, hrv⟩ := g1.rd; have o2' := g2.cell (show w5.drew.cell? _ = _ from o2) (by simp); have R6 := Lib.hid (hrv); have S6 := Lib.hid ((O6.out.ch ((Ch.refl [] w5).drew)).ch g2); have C6 := Lib.hid (HC.out.drew.trans' g2); clear g1 g2 g3 hrv)
                  | (go_at_call 17; refine (SameWaiters_eq _ av ao N capv cap s.q (by omega) R6.out S6.out).mono ?_; rintro e w7 ⟨rfl, d, rfl⟩))
                all_goals
                  have HC7 := Lib.hid (C6.out.drewN d)
                  clear R6 S6 C6 HC HW5 O6
                  rcases hor with rfl | rfl
                  · go_wp2_with fail
                    go_ret
                    exact ⟨rfl, HC7.out⟩
                  · by_cases hz : LL = 0
                    · subst hz
                      go_wp2_with fail
                      go_ret
                      exact ⟨rfl, HC7.out⟩
                    · have hz' : ((LL : Int) == 0) = false := by simp; omega
                      go_wp2_with fail
                      go_ret
                      exact ⟨rfl, HC7.out⟩
end Go.Proofs.Ytdncodandmjknaa.Kp
