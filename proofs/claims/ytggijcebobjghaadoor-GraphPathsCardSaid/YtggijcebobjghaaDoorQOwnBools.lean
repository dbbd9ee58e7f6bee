/-
  THE WALK of dappleref00.ownBools: lists of their own come to true.
-/
import Derived.Test.YtggijcebobjghaaDoorProg
import Derived.Test.YtggijcebobjghaaDoorQJOwnPre2
import Derived.Test.YtggijcebobjghaaDoorQOwnNil
import Derived.WalkKit
import Derived.Deep.OwnRows
import Derived.KernelRfl
set_option linter.unusedVariables false
set_option linter.unusedSimpArgs false
set_option maxRecDepth 100000
namespace Go.Proofs.YtggijcebobjghaaDoor.Own
open Go.RowKit Go.Proofs.YtggijcebobjghaaDoor.Hp

theorem infoBoolO : (Tryd.prog.info? 4).map (fun i => (i.zero, i.size, i.bytes)) = some (some (.bool false), 1, 1) := by kernel_rfl
theorem infoBoolsO : (Tryd.prog.info? 68).map (fun i => (i.zero, i.size, i.bytes)) = some (some (.slice none 0 0), 1, 24) := by kernel_rfl
theorem made_oneO (v : Value) (n : Nat) : madeCells #[v] n = (List.replicate n v).toArray := by
  apply Array.ext_getElem?
  intro i
  simp only [List.getElem?_toArray, List.getElem?_replicate]
  by_cases h : i < n
  · simp [madeCells, h, Nat.mod_one]
  · simp [madeCells, h]
theorem run_make_lists (w : World) (n : Nat) (h : n ≤ 1000000) : (Instr.makeSlice 44 (.int .i64 (n : Int)) (.int .i64 (n : Int))).run Tryd.prog w = .ok (.slice (some ⟨w.heap.size, 0, none⟩) n n) (w.alloc (.cells (Array.replicate n (.slice none 0 0)) 68)) := by
  obtain ⟨i, hi, he⟩ := Option.map_eq_some_iff.1 infoBoolsO
  simp only [Prod.mk.injEq] at he
  obtain ⟨e1, e2, e3⟩ := he
  have := run_make (P := Tryd.prog) w 44 68 i _ Tryd.underlying44 hi e1 .i64 .i64 n n (by omega) (by omega) (by rw [e3]; omega) (by omega)
  rw [this, e2]
  have e4 : (Value.slice none 0 0).cells = #[.slice none 0 0] := rfl
  simp only [Int.toNat_natCast]
  rw [e4, Nat.mul_one, made_oneO, List.toArray_replicate]
/-- The first places of a list in a block of its own; one more is written. -/
theorem Row.put {w : World} {st : TypeId} {b i N : Nat} {ls : List Value} (h : Row w st 1 (.slice (some ⟨b, 0, none⟩) i N) [b] i ls) (hi : i < N) (u : Value) : (∃ u0, w.cell? ⟨b, i, none⟩ = some u0) ∧ w.frozen? ⟨b, i, none⟩ = false ∧ Row (w.setCell ⟨b, i, none⟩ u) st 1 (.slice (some ⟨b, 0, none⟩) (i + 1) N) [b] (i + 1) (ls ++ [u]) := by
  obtain ⟨hl, ao, cap, hv, h1, h2, h3, h4⟩ := h
  simp only [Value.slice.injEq, true_and] at hv
  obtain ⟨rfl, rfl⟩ := hv
  obtain ⟨q, off, arr, hq, ha, hh, hf, hj⟩ := h4.resolve_left (by omega)
  simp only [Option.some.injEq, Addr.mk.injEq, and_true] at ha
  obtain ⟨rfl, rfl⟩ := ha
  refine ⟨⟨arr[i]'(by omega), by rw [cell_at hh, Array.getElem?_eq_getElem (by omega)]⟩, free_at hh, by rw [List.length_append, hl]; simp, _, _, rfl, by omega, h2, h3, .inr ⟨b, 0, _, by simp, rfl, heap_set hh u, by simpa using hf, fun j hjl => ?_⟩⟩
  rw [Nat.zero_add]
  by_cases e : j = i
  · subst e
    rw [Array.getElem?_setIfInBounds_self_of_lt (by omega), List.getElem?_append_right (by omega)]
    simp [hl]
  · rw [Array.getElem?_setIfInBounds_ne (by omega), List.getElem?_append_left (by omega)]
    have := hj j (by omega)
    rwa [Nat.zero_add] at this
/-- The bit b of a list's number. -/
def mB (b i : Nat) : Bool := bits BinOp.and IntKind.i64 ((i : Int) / 2 ^ b) 1 == 1
def mkB (m : Nat → Bool) (i k : Nat) : List Value := [.bool (m i)]
/-- The block in which the grown lists are laid. -/
def LB (w : World) (lb N : Nat) : Prop := lb < w.heap.size ∧ (0 < N → ∃ arr, w.heap[lb]? = some (.cells arr 68 (0, 0)) ∧ N ≤ arr.size)
theorem LB.row {w : World} {lb N : Nat} (h : LB w lb N) (hN : N ≤ 1000000) : Row w 68 1 (.slice (some ⟨lb, 0, none⟩) 0 N) [lb] 0 [] := by
  refine ⟨rfl, _, _, rfl, by omega, by unfold maxLen; omega, by simp, ?_⟩
  by_cases h0 : N = 0
  · exact .inl h0
  · obtain ⟨arr, h1, h2⟩ := h.2 (by omega)
    exact .inr ⟨lb, 0, arr, by simp, rfl, h1, by omega, fun j hj => absurd hj (by omega)⟩
theorem LB.keep {w w' : World} {lb N : Nat} (h : LB w lb N) {T : List Nat} (hc : Ch T w w') (ht : lb ∉ T) : LB w' lb N :=
  ⟨Nat.lt_of_lt_of_le h.1 hc.size, fun h0 => by
    obtain ⟨arr, h1, h2⟩ := h.2 h0
    exact ⟨arr, hc.heap h1 ht, h2⟩⟩
theorem mkB_get (m : Nat → Bool) (i k n : Nat) (h : k < n) : (rowOf (mkB m i) n)[k]? = some (.bool (m i)) := by
  have := rowOf_get (f := mkB m i) (sz := 1) (fun _ => rfl) k 0 (by omega) n h
  simpa [mkB] using this
theorem mkB_len (m : Nat → Bool) (i n : Nat) : (rowOf (mkB m i) n).length = n := by
  rw [rowOf_len (sz := 1) (fun _ => rfl), Nat.mul_one]
theorem P1.again {e : TypeId} {N : Nat} {V : Nat → SV} {S : List Nat} {mk : Nat → Nat → List Value} {w0 w : World} (hc : Ch S w0 w) (hh : ∀ j, j < N → Has w e 1 (V j) []) : P1 e 1 N V S mk w0 w 0 0 :=
  ⟨hc, fun j hj => by
    have : (if j < 0 then (V j).n else if j = 0 then 0 else 0) = 0 := by rw [if_neg (by omega)]; split <;> rfl
    rw [this]; exact hh j hj⟩
theorem P2.begin {N : Nat} {V : Nat → SV} {S : List Nat} {mk tk : Nat → Nat → List Value} {w0 w : World} {lb : Nat} (h : P1 4 1 N V S mk w0 w N 0) (hl : LB w lb N) (hN : N ≤ 1000000) (hlb : w0.heap.size ≤ lb) : P2 4 1 68 N V S mk tk w0 w 0 (.slice (some ⟨lb, 0, none⟩) 0 N) [lb] [] (fun _ => []) :=
  ⟨h.1, fun j hj => by have := h.2 j hj; rw [if_pos hj] at this; exact this, rfl, hl.row hN, (fun q hq => by simp at hq; subst hq; exact ⟨hlb, hl.1⟩), (fun j hj => absurd hj (by omega)), (fun j hj => absurd hj (by omega)), (fun j j' hj => absurd hj (by omega))⟩
theorem P2.lb {N : Nat} {V : Nat → SV} {S : List Nat} {mk tk : Nat → Nat → List Value} {w0 w : World} {lb i : Nat} {ls : List Value} {lbk : Nat → List Nat} (h : P2 4 1 68 N V S mk tk w0 w i (.slice (some ⟨lb, 0, none⟩) i N) [lb] ls lbk) : LB w lb N := by
  refine ⟨(h.lqs lb (by simp)).2, fun hN => ?_⟩
  obtain ⟨hl, ao, cap, hv, h1, h2, h3, h4⟩ := h.long
  simp only [Value.slice.injEq, true_and] at hv
  obtain ⟨rfl, rfl⟩ := hv
  obtain ⟨q, off, arr, hq, ha, hh, hf, hj⟩ := h4.resolve_left (by omega)
  simp only [Option.some.injEq, Addr.mk.injEq, and_true] at ha
  obtain ⟨rfl, rfl⟩ := ha
  exact ⟨arr, hh, by omega⟩
set_option maxHeartbeats 4000000 in
theorem ownBools_any (w : World) (bo : Option Addr) (N bcap : Nat) (V : Nat → SV) (S : List Nat) (hN : N ≤ 1000000) (hl : LLs w 4 1 bo N V S) :
    Calls Tryd.prog 56 #[.slice bo N bcap] w fun e w' => e = .returned (.bool true) ∧ Ch S w w' := by
  obtain ⟨i0, hi0, hz0, hz1, hz2⟩ := info_parts infoBoolO
  have HL := Lib.hid hl
  have hmk : ∀ w : World, _ := fun w => run_make_lists w N hN
  clear hl
  go_enter Tryd.func56, Tryd.ntmps56
  go_wp2_with fail
  have HB0 : Hid (LB (w.alloc (.cells (Array.replicate N (.slice none 0 0)) 68)) w.heap.size N) := Lib.hid ⟨by simp, fun _ => ⟨_, heap_new w _, by simp⟩⟩
  have HC0 : Hid (Ch S w (w.alloc (.cells (Array.replicate N (.slice none 0 0)) 68))) := Lib.hid ((Ch.refl _ _).alloc _)
  have HH0 : Hid (∀ j, j < N → Has (w.alloc (.cells (Array.replicate N (.slice none 0 0)) 68)) 4 1 (V j) []) := Lib.hid (fun j hj => (Has.start (HL.out.room j hj).1).keep (fun q _ o ho => heap_old ho))
  generalize w.alloc (.cells (Array.replicate N (.slice none 0 0)) 68) = w1 at *
  have HLB0 : Hid (w.heap.size ≤ w.heap.size) := Lib.hid (Nat.le_refl _)
  obtain ⟨lb, hlb⟩ : ∃ lb, lb = w.heap.size := ⟨_, rfl⟩
  have HLB : Hid (w.heap.size ≤ lb) := Lib.hid (by omega)
  rw [← hlb] at HB0 ⊢
  clear hlb HLB0
  go_loopw [4] (fun i wr => ∃ b : Nat, b ≤ 20 ∧ i = .int .i64 b ∧ LB wr lb N ∧ Ch S w wr ∧ ∀ j, j < N → Has wr 4 1 (V j) []) (fun i _ => 20 - (intOf i).toNat)
  case atStart => exact ⟨0, by omega, rfl, HB0.out, HC0.out, HH0.out⟩
  case round =>
    obtain ⟨b, hb, rfl, hlb, hc, hh⟩ := hrel
    have HLB1 := Lib.hid hlb
    have HCC := Lib.hid hc
    have HHH := Lib.hid hh
    clear HB0 HC0 HH0 hlb hc hh
    by_cases hbt : b < 20
    · have hbI : (b : Int) < 20 := by omega
      by_cases hge : wrap64 (2 ^ b) ≤ 2 * (N : Int)
      · go_wp2_with fail
        clear hge
        go_loopw [5] (fun i wr => ∃ j : Nat, j ≤ N ∧ i = .int .i64 j ∧ LB wr lb N ∧ P1 4 1 N V S (mkB (mB b)) w wr j 0) (fun i _ => N - (intOf i).toNat)
        case atStart => exact ⟨0, by omega, rfl, HLB1.out, P1.again HCC.out HHH.out⟩
        case round =>
          obtain ⟨i, hi, rfl, hlb, hp⟩ := hrel
          have HP := Lib.hid hp
          have HLB2 := Lib.hid hlb
          clear hp hlb HLB1 HCC HHH
          by_cases hlt : i < N
          · obtain ⟨b', off, rfl, hbS, hcl⟩ := HL.out.cells.resolve_left (by omega)
            have hci := hcl i hlt
            have hni := (HL.out.room i hlt).2
            have HCI := Lib.hid hci
            have HBS := Lib.hid hbS
            have hltI : (i : Int) < N := by omega
            clear hcl hci hbS
            obtain ⟨n, hn⟩ : ∃ n, n = (V i).n := ⟨_, rfl⟩
            rw [← hn] at hni
            have HN := Lib.hid hn
            clear hn
            go_wp2_with fail
            go_loopw [6] (fun k wr => ∃ j : Nat, j ≤ n ∧ k = .int .i64 j ∧ LB wr lb N ∧ P1 4 1 N V S (mkB (mB b)) w wr i j) (fun k _ => n - (intOf k).toNat)
            case atStart => exact ⟨0, by omega, rfl, HLB2.out, HP.out⟩
            case round =>
              obtain ⟨k, hk, rfl, hlb, hp2⟩ := hrel
              have HP2 := Lib.hid hp2
              have HLB3 := Lib.hid hlb
              have c1 := hp2.1.cell HCI.out HBS.out
              simp only [SV.val] at c1
              rw [← HN.out] at c1
              clear hp2 HP hlb HLB2
              by_cases hkn : k < n
              · obtain ⟨q, o, g1, ⟨u, g2⟩, g3, g4⟩ := HP2.out.one HL.out hlt (by rw [← HN.out]; exact hkn) (.bool (mB b i)) rfl (fun _ _ => rfl)
                have HQ : Hid (q ≠ lb) := Lib.hid (by
                  have h1 := (HL.out.room i hlt).1.lt q (by
                    have h2 := (HL.out.room i hlt).1.1
                    have h3 := HN.out
                    unfold SV.bk
                    rw [if_neg (by omega), g1]; simp)
                  have h4 := HLB.out
                  omega)
                rw [g1] at c1
                have G4 := Lib.hid g4
                have hkI : (k : Int) < n := by omega
                clear g4 g1 HP2
                go_wp2_with fail
                go_roundw
                case rel => exact ⟨k + 1, by omega, by go_num, ⟨by simpa [World.setCell] using HLB3.out.1, fun h0 => by
                  obtain ⟨arr, h1, h2⟩ := HLB3.out.2 h0
                  exact ⟨arr, (heap_set_ne (Ne.symm HQ.out)).trans h1, h2⟩⟩, G4.out⟩
                case measure => simp [intOf]; omega
              · obtain rfl : k = n := by omega
                have hp3 := HP2.out
                rw [HN.out] at hp3
                have HP3 := Lib.hid hp3.next
                clear hp3 HP2
                go_wp2_with fail
                go_roundw
                case rel => exact ⟨i + 1, by omega, by go_num, HLB3.out, HP3.out⟩
                case measure => simp [intOf]; omega
          · obtain rfl : N = i := by omega
            have HP2 := Lib.hid (P2.begin (tk := mkB (mB b)) HP.out HLB2.out hN HLB.out)
            clear HP HLB2
            go_wp2_with fail
            go_loopw [7] (fun i wr => ∃ (j : Nat) (ls : List Value) (lk : Nat → List Nat), j ≤ N ∧ i = .int .i64 j ∧ P2 4 1 68 N V S (mkB (mB b)) (mkB (mB b)) w wr j (.slice (some ⟨lb, 0, none⟩) j N) [lb] ls lk) (fun i _ => N - (intOf i).toNat)
            case atStart => exact ⟨0, [], fun _ => [], by omega, rfl, HP2.out⟩
            case round =>
              obtain ⟨i, ls, lk, hi, rfl, hp⟩ := hrel
              have HP := Lib.hid hp
              clear hp HP2
              by_cases hlt : i < N
              · obtain ⟨b', off, rfl, hbS, hcl⟩ := HL.out.cells.resolve_left (by omega)
                have hci := HP.out.ch.cell (hcl i hlt) hbS
                have hni := (HL.out.room i hlt).2
                have hltI : (i : Int) < N := by omega
                have PX0 := Lib.hid (PX.start HP.out hlt (fun _ _ => rfl) (by omega))
                clear hcl hbS
                simp only [SV.val] at hci
                obtain ⟨n, hn⟩ : ∃ n, n = (V i).n := ⟨_, rfl⟩
                rw [← hn] at hci hni
                have HN := Lib.hid hn
                clear hn
                go_wp2_with fail
                go_loopw [8, 9] (fun x k wr => ∃ (j : Nat) (xb : List Nat), j ≤ 16 ∧ k = .int .i64 j ∧ P2 4 1 68 N V S (mkB (mB b)) (mkB (mB b)) w wr i (.slice (some ⟨lb, 0, none⟩) i N) [lb] ls lk ∧ PX 4 1 V (mkB (mB b)) (mkB (mB b)) w wr i j [lb] lk x xb) (fun _ k _ => 16 - (intOf k).toNat)
                case atStart => exact ⟨0, _, by omega, rfl, HP.out, by rw [HN.out]; exact PX0.out⟩
                case round =>
                  obtain ⟨k, xb, hk, rfl, hp2, hx2⟩ := hrel
                  obtain ⟨ax, cx, rfl, _⟩ := hx2.row.rd
                  have HP2 := Lib.hid hp2
                  have HX2 := Lib.hid hx2
                  clear hp2 hx2 HP PX0
                  rw [← HN.out]
                  by_cases hkn : k < 16
                  · have hkI : (k : Int) < 16 := by omega
                    have CA : Ch [] _ (World.alloc _ (.cells #[.bool (mB b i)] 4)) := (Ch.refl _ wr).alloc _
                    have HP3 := Lib.hid (HP2.out.same HL.out CA)
                    have HX3 := Lib.hid (HX2.out.same CA)
                    have hrx := HX3.out.row
                    rw [← HN.out] at hrx
                    have HRX := Lib.hid hrx
                    have HN1 := Lib.hid (newL (w := wr) (b := wr.heap.size) rfl [.bool (mB b i)] 4)
                    clear CA HP2 HX2 hrx
                    go_wp2_with (at_builtin; refine wpList_append_grew _ rfl _ _ 68 rfl 4 i0 (.bool false) 1 1 Tryd.underlying68 hi0 hz0 hz1 hz2 rfl (by decide) rfl HRX.out ⟨wr.heap.size, 0, none⟩ 1 1 [.bool (mB b i)] rfl rfl HN1.out (by intro u hu; simp at hu; subst hu; rfl) (by omega) (by unfold maxLen; omega) (by omega) ?_)
                    intro v' w2 xb' hr4 hg4
                    rw [HN.out] at hr4 hg4
                    rw [← List.append_assoc] at hr4
                    obtain ⟨g1, g2⟩ := P2.grow HL.out hlt (fun _ _ => rfl) HP3.out HX3.out hr4 hg4
                    have G1 := Lib.hid g1
                    have G2 := Lib.hid g2
                    clear g1 g2 hr4 hg4 HP3 HX3 HRX HN1
                    go_wp2_with fail
                    go_roundw
                    case rel => exact ⟨k + 1, xb', by omega, by go_num, G1.out, G2.out⟩
                    case measure => simp [intOf]; omega
                  · obtain rfl : k = 16 := by omega
                    obtain ⟨⟨u0, hu0⟩, hfz, hput⟩ := Row.put HP2.out.long hlt (.slice ax (n + 16) cx)
                    have hx3 := HX2.out
                    obtain ⟨lk', hp4⟩ := HP2.out.next HL.out hlt (xv := .slice ax (n + 16) cx) (by rw [HN.out]; exact hx3) hput ((Ch.refl [lb] _).setCell _ _ (.inl (by simp))) (.inl rfl)
                    have HP4 := Lib.hid hp4
                    clear hx3 hp4 hput HP2 HX2
                    go_wp2_with fail
                    go_roundw
                    case rel => exact ⟨i + 1, _, lk', by omega, by go_num, HP4.out⟩
                    case measure => simp [intOf]; omega
              · obtain rfl : N = i := by omega
                have HC := Lib.hid HP.out.ch
                have HHAS := Lib.hid (fun j hj => Has.start (HP.out.has j hj).1)
                have HROWS := Lib.hid (fun j (hj : j < N) => HP.out.rows j hj)
                have HHS := Lib.hid (fun j (hj : j < N) => HP.out.has j hj)
                have HLONG := Lib.hid HP.out.long
                have HLEN := Lib.hid HP.out.len
                have HLBE : Hid (LB _ lb N) := Lib.hid HP.out.lb
                clear HP
                go_wp2_with fail
                obtain ⟨wo, rfl⟩ : ∃ wo : World, wo = wr := ⟨_, rfl⟩
                go_loopw [10] (fun i wr => ∃ j d : Nat, j ≤ N ∧ i = .int .i64 j ∧ wr = wo.drewN d) (fun i _ => N - (intOf i).toNat)
                case atStart => exact ⟨0, 0, by omega, rfl, rfl⟩
                case round =>
                  obtain ⟨i, d, hi, rfl, rfl⟩ := hrel
                  by_cases hlt : i < N
                  · obtain ⟨b', off, rfl, hbS, hcl⟩ := HL.out.cells.resolve_left (by omega)
                    have hci := HC.out.cell (hcl i hlt) hbS
                    have hni := (HL.out.room i hlt).2
                    have hltI : (i : Int) < N := by omega
                    obtain ⟨n, hn⟩ : ∃ n, n = (V i).n := ⟨_, rfl⟩
                    obtain ⟨_, _, hev, _, _, hrl⟩ := HLONG.out.rd
                    simp only [Value.slice.injEq, true_and] at hev
                    obtain ⟨rfl, rfl⟩ := hev
                    obtain ⟨bl, ol, hbe, hrl2⟩ := hrl.2.resolve_left (by omega)
                    simp only [Option.some.injEq, Addr.mk.injEq, and_true] at hbe
                    obtain ⟨rfl, rfl⟩ := hbe
                    have hli := hrl2 i (by omega)
                    rw [Nat.zero_add] at hli
                    have hrw := HROWS.out i hlt
                    obtain ⟨ax, cx, hev, _, _, hrx⟩ := hrw.rd
                    obtain ⟨bx, ox, rfl, hrx2⟩ := hrx.2.resolve_left (by omega)
                    have hls : ls[i]? = some (ls.getD i undef) := by
                      have := HLEN.out
                      simp [List.getD_eq_getElem?_getD, show i < ls.length by omega]
                    rw [hls, hev] at hli
                    have FA : Hid (∀ k, k < n → ∃ q o, (V i).ao = some ⟨q, o, none⟩ ∧ wo.cell? ⟨q, o + k, none⟩ = some (.bool (mB b i))) := by
                      intro k hk
                      obtain ⟨q, o, ha, hc⟩ := (HHS.out i hlt).read (by rw [mkB_len]; omega)
                      exact ⟨q, o, ha, (hc k (by rw [mkB_len]; omega)).trans (mkB_get _ _ _ _ (by omega))⟩
                    have FB : Hid (∀ k, k < n + 16 → wo.cell? ⟨bx, ox + k, none⟩ = some (.bool (mB b i))) := by
                      intro k hk
                      refine (hrx2 k (by omega)).trans ?_
                      by_cases hkn : k < (V i).n
                      · rw [List.getElem?_append_left (by rw [mkB_len]; omega)]
                        exact mkB_get _ _ _ _ hkn
                      · rw [List.getElem?_append_right (by rw [mkB_len]; omega), mkB_len]
                        exact mkB_get _ _ _ _ (by omega)
                    simp only [SV.val] at hci
                    rw [← hn] at hci hli hni
                    clear hcl hbS hrl hrl2 hrw hrx hrx2 hls hev hn
                    go_wp2_with fail
                    go_loopw [11] (fun k wr => ∃ j d : Nat, j ≤ n + 16 ∧ k = .int .i64 j ∧ wr = wo.drewN d) (fun k _ => n + 16 - (intOf k).toNat)
                    case atStart => exact ⟨0, d, by omega, rfl, rfl⟩
                    case round =>
                      obtain ⟨k, d2, hk, rfl, rfl⟩ := hrel
                      by_cases hkm : k < n + 16
                      · have g3 := FB.out k hkm
                        have hkJ : (k : Int) < (n : Int) + 16 := by omega
                        by_cases hkn : k < n
                        · obtain ⟨q, o, g1, g2⟩ := FA.out k hkn
                          rw [g1] at hci
                          have hkI : (k : Int) < n := by omega
                          clear g1
                          unfold mB at g2 g3
                          go_wp2_with fail
                          go_roundw
                          case rel => exact ⟨k + 1, d2, by omega, by go_num, rfl⟩
                          case measure => simp [intOf]; omega
                        · have hkI : ¬ (k : Int) < n := by omega
                          unfold mB at g3
                          go_wp2_with fail
                          go_roundw
                          case rel => exact ⟨k + 1, d2, by omega, by go_num, rfl⟩
                          case measure => simp [intOf]; omega
                      · obtain rfl : k = n + 16 := by omega
                        go_wp2_with fail
                        go_roundw
                        case rel => exact ⟨i + 1, d2, by omega, by go_num, rfl⟩
                        case measure => simp [intOf]; omega
                  · obtain rfl : i = N := by omega
                    have CD : Hid (Ch [] wo (wo.drewN d)) := Lib.hid ((Ch.refl _ _).drewN d)
                    have HF : Hid (LB (wo.drewN d) lb i ∧ Ch S w (wo.drewN d) ∧ ∀ j, j < i → Has (wo.drewN d) 4 1 (V j) []) := Lib.hid (⟨HLBE.out.keep CD.out (by simp), HC.out.trans' (CD.out.mono (by simp)), fun j hj => (HHAS.out j hj).keep (fun q _ o ho => CD.out.heap ho (by simp))⟩)
                    go_wp2_with fail
                    go_roundw
                    case rel => exact ⟨b + 1, by omega, by go_num, HF.out.1, HF.out.2.1, HF.out.2.2⟩
                    case measure => simp [intOf]; omega
      · go_wp2_with fail
        go_ret
        exact ⟨rfl, HCC.out⟩
    · obtain rfl : b = 20 := by omega
      go_wp2_with fail
      go_ret
      exact ⟨rfl, HCC.out⟩
end Go.Proofs.YtggijcebobjghaaDoor.Own
