/-
  THE WALK of dappleref00.ownInts: lists of their own come to true.
-/
import Derived.Test.YtefamhdkfdgdjaaDoorProg
import Derived.Test.YtefamhdkfdgdjaaDoorQJOwnPre2
import Derived.WalkKit
import Derived.Deep.OwnRows
import Derived.KernelRfl
set_option linter.unusedVariables false
set_option linter.unusedSimpArgs false
set_option maxRecDepth 100000
namespace Go.Proofs.YtefamhdkfdgdjaaDoor.Own
open Go.RowKit Go.Proofs.YtefamhdkfdgdjaaDoor.Hp

theorem infoInt : (Tryd.prog.info? 3).map (fun i => (i.zero, i.size, i.bytes)) = some (some (.int .i64 0), 1, 8) := by kernel_rfl
theorem infoInts : (Tryd.prog.info? 26).map (fun i => (i.zero, i.size, i.bytes)) = some (some (.slice none 0 0), 1, 24) := by kernel_rfl
def mkI (i k : Nat) : List Value := [.int .i64 ((i : Int) * 1000 + k)]
def tkI (i k : Nat) : List Value := [.int .i64 ((-1 - (i : Int)) * 1000 + k)]
set_option maxHeartbeats 4000000 in
theorem ownInts_any (w : World) (bo : Option Addr) (N bcap : Nat) (V : Nat → SV) (S : List Nat) (hN : N ≤ 1000000) (hl : LLs w 3 1 bo N V S) :
    Calls Tryd.prog 47 #[.slice bo N bcap] w fun e w' => e = .returned (.bool true) ∧ Ch S w w' := by
  obtain ⟨i0, hi0, hz0, hz1, hz2⟩ := info_parts infoInt
  obtain ⟨i1, hi1, hy0, hy1, hy2⟩ := info_parts infoInts
  have HL := Lib.hid hl
  have ML := Lib.hid (show ∀ i k, (mkI i k).length = 1 from fun _ _ => rfl)
  have TL := Lib.hid (show ∀ i k, (tkI i k).length = 1 from fun _ _ => rfl)
  clear hl
  go_enter Tryd.func47, Tryd.ntmps47
  go_wp2_with fail
  go_loopw [3] (fun i wr => ∃ j : Nat, j ≤ N ∧ i = .int .i64 j ∧ P1 3 1 N V S mkI w wr j 0) (fun i _ => N - (intOf i).toNat)
  case atStart => exact ⟨0, by omega, rfl, P1.start HL.out⟩
  case round =>
    obtain ⟨i, hi, rfl, hp⟩ := hrel
    have HP := Lib.hid hp
    clear hp
    by_cases hlt : i < N
    · obtain ⟨b, off, rfl, hbS, hcl⟩ := HL.out.cells.resolve_left (by omega)
      have hci := hcl i hlt
      have hni := (HL.out.room i hlt).2
      have HCI := Lib.hid hci
      have HBS := Lib.hid hbS
      have hltI : (i : Int) < N := by omega
      clear hcl hci hbS
      obtain ⟨n, hn⟩ : ∃ n, n = (V i).n := ⟨_, rfl⟩
      rw [← hn] at hni
      have HN := Lib.hid hn
      clear hn
      go_wp2_with fail
      obtain ⟨wo, rfl⟩ : ∃ wo : World, wo = wr := ⟨_, rfl⟩
      go_loopw [4] (fun k wr => ∃ j : Nat, j ≤ n ∧ k = .int .i64 j ∧ P1 3 1 N V S mkI w wr i j) (fun k _ => n - (intOf k).toNat)
      case atStart => exact ⟨0, by omega, rfl, HP.out⟩
      case round =>
        obtain ⟨k, hk, rfl, hp2⟩ := hrel
        have HP2 := Lib.hid hp2
        have c1 := hp2.1.cell HCI.out HBS.out
        simp only [SV.val] at c1
        rw [← HN.out] at c1
        clear hp2 HP
        by_cases hkn : k < n
        · obtain ⟨q, o, g1, ⟨u, g2⟩, g3, g4⟩ := HP2.out.one HL.out hlt (by rw [← HN.out]; exact hkn) (.int .i64 ((i : Int) * 1000 + k)) rfl ML.out
          rw [g1] at c1
          have G4 := Lib.hid g4
          have hkI : (k : Int) < n := by omega
          clear g4 g1 HP2
          go_wp2_with fail
          go_roundw
          case rel => exact ⟨k + 1, by omega, by go_num, G4.out⟩
          case measure => simp [intOf]; omega
        · obtain rfl : k = n := by omega
          have hp3 := HP2.out
          rw [HN.out] at hp3
          have HP3 := Lib.hid hp3.next
          clear hp3 HP2
          go_wp2_with fail
          go_roundw
          case rel => exact ⟨i + 1, by omega, by go_num, HP3.out⟩
          case measure => simp [intOf]; omega
    · obtain rfl : N = i := by omega
      have HP2 := Lib.hid (P2.start (st := 26) (tk := tkI) HP.out)
      clear HP
      go_wp2_with fail
      obtain ⟨wo, rfl⟩ : ∃ wo : World, wo = wr := ⟨_, rfl⟩
      go_loopw [5, 6] (fun lv i wr => ∃ (j : Nat) (lq : List Nat) (ls : List Value) (lb : Nat → List Nat), j ≤ N ∧ i = .int .i64 j ∧ P2 3 1 26 N V S mkI tkI w wr j lv lq ls lb) (fun _ i _ => N - (intOf i).toNat)
      case atStart => exact ⟨0, [], [], fun _ => [], by omega, rfl, HP2.out⟩
      case round =>
        obtain ⟨i, lq, ls, lb, hi, rfl, hp⟩ := hrel
        have HP := Lib.hid hp
        obtain ⟨al, cl, rfl, _⟩ := hp.long.rd
        clear hp HP2
        by_cases hlt : i < N
        · obtain ⟨b, off, rfl, hbS, hcl⟩ := HL.out.cells.resolve_left (by omega)
          have hci := HP.out.ch.cell (hcl i hlt) hbS
          have hni := (HL.out.room i hlt).2
          have hltI : (i : Int) < N := by omega
          have PX0 := Lib.hid (PX.start HP.out hlt ML.out (by omega))
          clear hcl hbS
          simp only [SV.val] at hci
          obtain ⟨n, hn⟩ : ∃ n, n = (V i).n := ⟨_, rfl⟩
          rw [← hn] at hci hni
          have HN := Lib.hid hn
          clear hn
          go_wp2_with fail
          obtain ⟨wo, rfl⟩ : ∃ wo : World, wo = wr := ⟨_, rfl⟩
          go_loopw [7, 8] (fun x k wr => ∃ (j : Nat) (xb : List Nat), j ≤ 16 ∧ k = .int .i64 j ∧ P2 3 1 26 N V S mkI tkI w wr i (.slice al i cl) lq ls lb ∧ PX 3 1 V mkI tkI w wr i j lq lb x xb) (fun _ k _ => 16 - (intOf k).toNat)
          case atStart => exact ⟨0, _, by omega, rfl, HP.out, by rw [HN.out]; exact PX0.out⟩
          case round =>
            obtain ⟨k, xb, hk, rfl, hp2, hx2⟩ := hrel
            obtain ⟨ax, cx, rfl, _⟩ := hx2.row.rd
            have HP2 := Lib.hid hp2
            have HX2 := Lib.hid hx2
            clear hp2 hx2 HP PX0
            rw [← HN.out]
            by_cases hkn : k < 16
            · have hkI : (k : Int) < 16 := by omega
              have e1 : IntKind.i64.wrap ((-1 : Int) - i) = -1 - (i : Int) := IntWalk.i64_in _ (by omega)
              have CA : Ch [] wr (wr.alloc (.cells #[.int .i64 ((-1 - (i : Int)) * 1000 + k)] 3)) := (Ch.refl _ _).alloc _
              have HP3 := Lib.hid (HP2.out.same HL.out CA)
              have HX3 := Lib.hid (HX2.out.same CA)
              have hrx := HX3.out.row
              rw [← HN.out] at hrx
              have HRX := Lib.hid hrx
              have HN1 := Lib.hid (newL (w := wr) (b := wr.heap.size) rfl [.int .i64 ((-1 - (i : Int)) * 1000 + k)] 3)
              clear CA HP2 HX2 hrx
              go_wp2_with (at_builtin; refine wpList_append_grew _ rfl _ _ 26 rfl 3 i0 (.int .i64 0) 1 8 Tryd.underlying26 hi0 hz0 hz1 hz2 rfl (by decide) rfl HRX.out ⟨wr.heap.size, 0, none⟩ 1 1 [.int .i64 ((-1 - (i : Int)) * 1000 + k)] rfl rfl HN1.out (one1 _ _) (by omega) (by unfold maxLen; omega) (by omega) ?_)
              intro v' w2 xb' hr4 hg4
              rw [HN.out] at hr4 hg4
              rw [← List.append_assoc] at hr4
              obtain ⟨g1, g2⟩ := P2.grow HL.out hlt ML.out HP3.out HX3.out hr4 hg4
              have G1 := Lib.hid g1
              have G2 := Lib.hid g2
              clear g1 g2 hr4 hg4 HP3 HX3 HRX HN1
              go_wp2_with fail
              go_roundw
              case rel => exact ⟨k + 1, xb', by omega, by go_num, G1.out, G2.out⟩
              case measure => simp [intOf]; omega
            · obtain rfl : k = 16 := by omega
              have CA : Ch [] wr (wr.alloc (.cells #[.slice ax (n + 16) cx] 26)) := (Ch.refl _ _).alloc _
              have hx3 := HX2.out.same CA
              rw [← HN.out] at hx3
              have HP3 := Lib.hid (HP2.out.same HL.out CA)
              have HX3 := Lib.hid hx3
              have HRL := Lib.hid HP3.out.long
              have HN1 := Lib.hid (newL (w := wr) (b := wr.heap.size) rfl [.slice ax (n + 16) cx] 26)
              clear CA HP2 HX2 hx3
              go_wp2_with (at_builtin; refine wpList_append_row _ rfl _ _ 44 rfl 26 i1 (.slice none 0 0) 1 24 Tryd.underlying44 hi1 hy0 hy1 hy2 rfl (by decide) rfl HRL.out ⟨wr.heap.size, 0, none⟩ 1 1 [.slice ax (n + 16) cx] rfl rfl HN1.out (oneS _ _ _) (by unfold maxLen; omega) (by omega) ?_)
              intro v' w2 lq' hr4 hc4 hq4
              have hq5 : News lq lq' (wr.alloc (.cells #[.slice ax (n + 16) cx] 26)) w2 := by unfold News; simpa using hq4
              obtain ⟨lb', hp4⟩ := HP3.out.next HL.out hlt HX3.out hr4 hc4 hq5
              have HP4 := Lib.hid hp4
              clear hr4 hc4 hq4 hq5 hp4 HP3 HX3 HRL HN1
              go_wp2_with fail
              go_roundw
              case rel => exact ⟨i + 1, lq', _, lb', by omega, by go_num, HP4.out⟩
              case measure => simp [intOf]; omega
        · obtain rfl : N = i := by omega
          have HC := Lib.hid HP.out.ch
          go_wp2_with fail
          obtain ⟨wo, rfl⟩ : ∃ wo : World, wo = wr := ⟨_, rfl⟩
          go_loopw [9] (fun i wr => ∃ j d : Nat, j ≤ N ∧ i = .int .i64 j ∧ wr = wo.drewN d) (fun i _ => N - (intOf i).toNat)
          case atStart => exact ⟨0, 0, by omega, rfl, rfl⟩
          case round =>
            obtain ⟨i, d, hi, rfl, rfl⟩ := hrel
            by_cases hlt : i < N
            · obtain ⟨b, off, rfl, hbS, hcl⟩ := HL.out.cells.resolve_left (by omega)
              have hci := HP.out.ch.cell (hcl i hlt) hbS
              have hni := (HL.out.room i hlt).2
              have hltI : (i : Int) < N := by omega
              obtain ⟨n, hn⟩ : ∃ n, n = (V i).n := ⟨_, rfl⟩
              obtain ⟨_, _, hev, _, _, hrl⟩ := HP.out.long.rd
              simp only [Value.slice.injEq, true_and] at hev
              obtain ⟨rfl, rfl⟩ := hev
              obtain ⟨bl, ol, rfl, hrl2⟩ := hrl.2.resolve_left (by omega)
              have hli := hrl2 i (by omega)
              have hrw := HP.out.rows i hlt
              obtain ⟨ax, cx, hev, _, _, hrx⟩ := hrw.rd
              obtain ⟨bx, ox, rfl, hrx2⟩ := hrx.2.resolve_left (by omega)
              have hls : ls[i]? = some (ls.getD i undef) := by
                have := HP.out.len
                simp [List.getD_eq_getElem?_getD, show i < ls.length by omega]
              rw [hls, hev] at hli
              have hle1 : (rowOf (mkI i) (V i).n).length = (V i).n := by rw [rowOf_len (ML.out i), Nat.mul_one]
              have FA : Hid (∀ k, k < n → ∃ q o, (V i).ao = some ⟨q, o, none⟩ ∧ wo.cell? ⟨q, o + k, none⟩ = some (.int .i64 ((i : Int) * 1000 + k))) := by
                intro k hk
                obtain ⟨q, o, ha, hc⟩ := (HP.out.has i hlt).read (by rw [hle1]; omega)
                refine ⟨q, o, ha, (hc k (by rw [hle1]; omega)).trans ?_⟩
                have := rowOf_get (ML.out i) k 0 (by omega) (V i).n (by omega)
                simpa [mkI] using this
              have FB : Hid (∀ k, k < n → wo.cell? ⟨bx, ox + k, none⟩ = some (.int .i64 ((i : Int) * 1000 + k))) := by
                intro k hk
                refine (hrx2 k (by omega)).trans ?_
                rw [List.getElem?_append_left (by rw [hle1]; omega)]
                have := rowOf_get (ML.out i) k 0 (by omega) (V i).n (by omega)
                simpa [mkI] using this
              have FC : Hid (∀ k, k < 16 → wo.cell? ⟨bx, ox + (n + k), none⟩ = some (.int .i64 ((-1 - (i : Int)) * 1000 + k))) := by
                intro k hk
                refine (hrx2 (n + k) (by omega)).trans ?_
                rw [List.getElem?_append_right (by rw [hle1]; omega), hle1]
                have := rowOf_get (TL.out i) k 0 (by omega) 16 (by omega)
                rw [show n + k - (V i).n = k by omega]
                simpa [tkI] using this
              simp only [SV.val] at hci
              rw [← hn] at hci hli hni
              clear hcl hbS hrl hrl2 hrw hrx hrx2 hls hle1 hev
              clear hn
              go_wp2_with fail
              go_loopw [11] (fun k wr => ∃ j d : Nat, j ≤ n ∧ k = .int .i64 j ∧ wr = wo.drewN d) (fun k _ => n - (intOf k).toNat)
              case atStart => exact ⟨0, d, by omega, rfl, rfl⟩
              case round =>
                obtain ⟨k, d2, hk, rfl, rfl⟩ := hrel
                by_cases hkn : k < n
                · obtain ⟨q, o, g1, g2⟩ := FA.out k hkn
                  have g3 := FB.out k hkn
                  rw [g1] at hci
                  have hkI : (k : Int) < n := by omega
                  clear g1
                  go_wp2_with fail
                  go_roundw
                  case rel => exact ⟨k + 1, d2, by omega, by go_num, rfl⟩
                  case measure => simp [intOf]; omega
                · obtain rfl : n = k := by omega
                  go_wp2_with fail
                  go_loopw [12] (fun k wr => ∃ j d : Nat, j ≤ 16 ∧ k = .int .i64 j ∧ wr = wo.drewN d) (fun k _ => 16 - (intOf k).toNat)
                  case atStart => exact ⟨0, d2, by omega, rfl, rfl⟩
                  case round =>
                    obtain ⟨k, d3, hk, rfl, rfl⟩ := hrel
                    by_cases hkn : k < 16
                    · have g3 := FC.out k hkn
                      have hkI : (k : Int) < 16 := by omega
                      have e1 : IntKind.i64.wrap ((-1 : Int) - i) = -1 - (i : Int) := IntWalk.i64_in _ (by omega)
                      go_wp2_with fail
                      go_roundw
                      case rel => exact ⟨k + 1, d3, by omega, by go_num, rfl⟩
                      case measure => simp [intOf]; omega
                    · obtain rfl : k = 16 := by omega
                      go_wp2_with fail
                      go_roundw
                      case rel => exact ⟨i + 1, d3, by omega, by go_num, rfl⟩
                      case measure => simp [intOf]; omega
            · obtain rfl : i = N := by omega
              go_wp2_with fail
              go_ret
              exact ⟨rfl, HC.out.drewN d⟩
end Go.Proofs.YtefamhdkfdgdjaaDoor.Own
