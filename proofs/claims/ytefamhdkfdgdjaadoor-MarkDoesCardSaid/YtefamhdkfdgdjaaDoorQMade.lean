/-
  THE WALK of dapplelaw15.made: a heap of these cells, and the document's.
-/
import Derived.Test.YtefamhdkfdgdjaaDoorQRef03b
import Derived.Deep.RegionHeld3
set_option linter.unusedVariables false
set_option linter.unusedSimpArgs false
set_option maxRecDepth 100000
namespace Go.Proofs.YtefamhdkfdgdjaaDoor.L15
open Go.RowKit Go.Proofs.YtefamhdkfdgdjaaDoor.Hp Go.Proofs.YtefamhdkfdgdjaaDoor.Cp Go.Proofs.YtefamhdkfdgdjaaDoor.Cl Go.Proofs.YtefamhdkfdgdjaaDoor.Mk Go.Proofs.YtefamhdkfdgdjaaDoor.R03
def InC (x : Cel) : Prop := 0 ≤ x.k ∧ x.k < 256 ∧ 0 ≤ x.c ∧ x.c < 256 ∧ (0 ≤ x.a ∧ x.a < 18446744073709551616) ∧ (0 ≤ x.b ∧ x.b < 18446744073709551616)
def madeK (cs : List Cel) : Nat → List Cel
  | 0 => List.replicate 16 free
  | k + 1 => make (madeK cs k) k (cs.getD k free).k (cs.getD k free).c (cs.getD k free).a (cs.getD k free).b
/-- The heap that is made. -/
def madeL (cs : List Cel) : List Cel := madeK cs (min cs.length 16)
/-- Two heaps, apart. -/
structure HH (w0 w : World) (p s : Nat) (F : List Nat) (rp rb : Nat) (l l' : List Cel) : Prop where
  is : Cl.Is w p s F l
  rh : RH w rp rb l'
  ch : Ch [] w0 w
  fnew : ∀ b ∈ F, w0.heap.size ≤ b
  rnew : w0.heap.size ≤ rp ∧ w0.heap.size ≤ rb
  rlt : rp < w.heap.size ∧ rb < w.heap.size
  ap : rp ∉ F ∧ rb ∉ F
theorem HH.mine {w0 w w' : World} {p s : Nat} {F : List Nat} {rp rb : Nat} {l l' l2 : List Cel} (h : HH w0 w p s F rp rb l l') (ht : To w w' p s F l2) : ∃ F', HH w0 w' p s F' rp rb l2 l' ∧ (∀ b ∈ F', b ∈ F ∨ w.heap.size ≤ b) ∧ Ch [s] w w' := by
  obtain ⟨F', h1, h2, h3⟩ := ht
  have hs := h.is.sf
  have hsz := h2.size
  refine ⟨F', ⟨h1, h.rh.ch h2 (fun e => h.ap.1 (by simp at e; rw [e]; exact hs)) (fun e => h.ap.2 (by simp at e; rw [e]; exact hs)), h.ch.trans h2 (fun x hx => .inr (by simp at hx; rw [hx]; exact h.fnew s hs)), fun b hb => ?_, h.rnew, ⟨by have := h.rlt.1; omega, by have := h.rlt.2; omega⟩, ⟨fun hm => ?_, fun hm => ?_⟩⟩, h3, h2⟩
  · rcases h3 b hb with e | e
    · exact h.fnew b e
    · have := h.ch.size; omega
  · rcases h3 _ hm with e | e
    · exact h.ap.1 e
    · have := h.rlt.1; omega
  · rcases h3 _ hm with e | e
    · exact h.ap.2 e
    · have := h.rlt.2; omega
theorem HH.its {w0 w w' : World} {p s : Nat} {F : List Nat} {rp rb : Nat} {l l' l2 : List Cel} (h : HH w0 w p s F rp rb l l') (hr : RH w' rp rb l2) (hc : Ch [rb] w w') : HH w0 w' p s F rp rb l l2 := by
  have hsz := hc.size
  exact ⟨h.is.ch hc (fun b hb hm => h.ap.2 (by simp at hm; rw [← hm]; exact hb)), hr, h.ch.trans hc (fun x hx => .inr (by simp at hx; rw [hx]; exact h.rnew.2)), h.fnew, h.rnew, ⟨by have := h.rlt.1; omega, by have := h.rlt.2; omega⟩, h.ap⟩
theorem HH.chs {w0 w w' : World} {p s : Nat} {F : List Nat} {rp rb : Nat} {l l' : List Cel} (h : HH w0 w p s F rp rb l l') (hc : Ch [] w w') : HH w0 w' p s F rp rb l l' := by
  have hsz := hc.size
  exact ⟨h.is.ch hc (by simp), h.rh.ch hc (by simp) (by simp), h.ch.trans' hc, h.fnew, h.rnew, ⟨by have := h.rlt.1; omega, by have := h.rlt.2; omega⟩, h.ap⟩
set_option maxHeartbeats 4000000 in
theorem made_any (w : World) (ao : Option Addr) (n cap : Nat) (cs : List Cel) (hl : cs.length = n) (hn : n ≤ 140737488351232) (hr : Hp.Rd w ao (n * 4) (Cl.flat cs)) (hi : ∀ x ∈ cs, InC x) :
    Calls Tryd.prog 7 #[.slice ao n cap] w fun e w' => ∃ p s F rp rb, e = .returned (.tuple #[.pointer (some ⟨p, 0, none⟩), .pointer (some ⟨rp, 0, none⟩)]) ∧ HH w w' p s F rp rb (madeL cs) (madeL cs) := by
  have N1 := Cl.New_any w 16 (by omega) (by omega)
  have N2 := Lib.hid (fun W => R03.New_any W 16 (by omega) (by omega))
  have HR := Lib.hid hr
  have HI := Lib.hid hi
  have HL := Lib.hid hl
  clear hr hi hl
  go_enter Tryd.func7, Tryd.ntmps7
  go_wp2_with fail
  refine N1.mono ?_
  rintro e w1 ⟨p, s, F, rfl, g1, g2, g3⟩
  have N2' := N2.out w1
  have I1 := Lib.hid g1
  have C1 := Lib.hid g2
  have F1 := Lib.hid g3
  clear N1 g1 g2 g3 N2
  go_wp2_with fail
  refine N2'.mono ?_
  rintro e w2 ⟨rp, rb, rfl, g1, g2, g3, g4⟩
  have H0 : Hid (HH w w2 p s F rp rb (madeK cs 0) (madeK cs 0)) := Lib.hid (by
    have hs := C1.out.size
    have hlt := I1.out.lt
    refine ⟨I1.out.ch g2 (by simp), g1, C1.out.trans' g2, F1.out, ⟨by omega, by omega⟩, ⟨lt_of g1.hd, lt_of g1.bd⟩, ⟨fun hm => ?_, fun hm => ?_⟩⟩
    · have := hlt _ hm; omega
    · have := hlt _ hm; omega)
  clear N2' g1 g2 g3 g4 I1 C1 F1
  go_wp2_with fail
  go_loopw [8] (fun i wr => ∃ (j : Nat) (F : List Nat), i = .int .i64 j ∧ j ≤ n ∧ j ≤ 16 ∧ HH w wr p s F rp rb (madeK cs j) (madeK cs j)) (fun i _ => 16 - (intOf i).toNat)
  case atStart => exact ⟨0, F, rfl, by omega, by omega, H0.out⟩
  case round =>
    obtain ⟨j, F, rfl, hj, hj2, hh⟩ := hrel
    clear H0
    by_cases hlt : j < n
    · have ltI : (j : Int) < n := by omega
      by_cases hlt2 : j < 16
      · as_aux_lemma =>
        have ltI2 : (j : Int) < 16 := by omega
        obtain ⟨bh, oh, rfl, hx⟩ := (HR.out.ch hh.ch).2.resolve_left (by omega)
        have hjl : j < cs.length := by rw [HL.out]; exact hlt
        have HXB : Hid (∀ t, t < 4 → wr.cell? ⟨bh, oh + (j * 4 + t), none⟩ = (cel (cs.getD j free)).toList[t]?) := Lib.hid (fun t ht => (hx (j * 4 + t) (by omega)).trans (Cl.flat_get cs j t hjl ht))
        have hbl : bh < w.heap.size := by
          obtain ⟨b', o', e, hx'⟩ := HR.out.2.resolve_left (by omega)
          simp only [Option.some.injEq, Addr.mk.injEq] at e
          obtain ⟨rfl, rfl, _⟩ := e
          have h0 := (hx' (j * 4 + 0) (by omega)).trans (Cl.flat_get cs j 0 hjl (by omega))
          exact World.block_lt_of_cell? w _ (h0.trans rfl)
        have hmk : madeK cs (j + 1) = make (madeK cs j) j (cs.getD j free).k (cs.getD j free).c (cs.getD j free).a (cs.getD j free).b := rfl
        obtain ⟨i1, i2, i3, i4, i5, i6⟩ := HI.out (cs.getD j free) (by simp [List.getD_eq_getElem?_getD, hjl])
        generalize cs.getD j free = x at *
        obtain ⟨xk, xc, xa, xb⟩ := x
        simp only at i1 i2 i3 i4 i5 i6 hmk
        have d0 : wr.cell? ⟨bh, oh + j * 4, none⟩ = some (.int .u8 xk) := HXB.out 0 (by omega)
        have d1 : wr.cell? ⟨bh, oh + j * 4 + 1, none⟩ = some (.int .u8 xc) := HXB.out 1 (by omega)
        have d2 : wr.cell? ⟨bh, oh + j * 4 + 2, none⟩ = some (.int .u64 xa) := HXB.out 2 (by omega)
        have d3 : wr.cell? ⟨bh, oh + j * 4 + 3, none⟩ = some (.int .u64 xb) := HXB.out 3 (by omega)
        have HMK := Lib.hid hmk
        have hsn := hh.fnew s hh.is.sf
        have hrn := hh.rnew.2
        have HKS : Hid (∀ W T, Ch T wr W → (∀ y ∈ T, w.heap.size ≤ y) → W.cell? ⟨bh, oh + j * 4, none⟩ = some (.int .u8 xk) ∧ W.cell? ⟨bh, oh + j * 4 + 1, none⟩ = some (.int .u8 xc) ∧ W.cell? ⟨bh, oh + j * 4 + 2, none⟩ = some (.int .u64 xa) ∧ W.cell? ⟨bh, oh + j * 4 + 3, none⟩ = some (.int .u64 xb)) := Lib.hid (fun W T c hT => by
          have hb : bh ∉ T := fun hm => by have := hT _ hm; omega
          exact ⟨c.cell d0 hb, c.cell d1 hb, c.cell d2 hb, c.cell d3 hb⟩)
        have HM1 : Hid (Calls Tryd.prog 19 #[.pointer (some ⟨p, 0, none⟩), .int .i64 j, .int .u8 xk, .int .u8 xc, .int .u64 xa, .int .u64 xb] wr.drew fun e w' => (∃ z : Int, e = .returned (.int .i64 z)) ∧ ∃ F', HH w w' p s F' rp rb (madeK cs (j + 1)) (madeK cs j) ∧ Ch [s] wr w') := Lib.hid ((Cl.Make_any wr.drew p s F (madeK cs j) j xk xc xa xb (hh.is.ch (Ch.refl [] wr).drew (by simp)) i2 ⟨i3, i5.1, i5.2, i6.1, i6.2⟩).mono (fun e w' ⟨he, ht⟩ => by
          obtain ⟨F', k1, k2, k3⟩ := (hh.chs (Ch.refl _ _).drew).mine ht
          exact ⟨⟨_, he⟩, F', by rw [hmk]; exact k1, (Ch.refl [s] wr).drew.trans' k3⟩))
        have HHS := Lib.hid (And.intro hsn hrn)
        clear hh hx hmk i1 i2 i3 i4 i5 i6 HXB hbl hsn hrn
        go_wp2_with fail
        go_region_held3 (fun w' => w'.cell? ⟨bh, oh + j * 4, none⟩ = some (.int .u8 xk) ∧ w'.cell? ⟨bh, oh + j * 4 + 1, none⟩ = some (.int .u8 xc) ∧ w'.cell? ⟨bh, oh + j * 4 + 2, none⟩ = some (.int .u64 xa) ∧ w'.cell? ⟨bh, oh + j * 4 + 3, none⟩ = some (.int .u64 xb)) (first | exact HK9.out | (refine HKS.out _ [] ?_ (fun y hy => nomatch hy) <;> repeat (first | exact Ch.refl _ _ | apply Ch.drew))) (first | (go_at_call 19; refine HM1.out.mono ?_; rintro e w9 ⟨⟨z9, rfl⟩, F9, h9, c9⟩; have H9 := Lib.hid h9; have HK9 := Lib.hid (HKS.out w9 [s] c9 (fun y hy => by rw [List.mem_singleton.1 hy]; exact HHS.out.1)); have C9 := Lib.hid c9; clear h9 c9))
        all_goals
          obtain ⟨e0, e1, e2, e3⟩ := HK9.out
          have HM2 : Hid (Calls Tryd.prog 24 #[.pointer (some ⟨rp, 0, none⟩), .int .i64 j, .int .u8 xk, .int .u8 xc, .int .u64 xa, .int .u64 xb] w9.drew fun e w' => (∃ z : Int, e = .returned (.int .i64 z)) ∧ HH w w' p s F9 rp rb (madeK cs (j + 1)) (madeK cs (j + 1)) ∧ Ch [rb] w9 w') := Lib.hid ((R03.Make_any w9.drew rp rb (madeK cs j) j xk xc xa xb (H9.out.rh.ch (T := []) (Ch.refl _ _).drew (by simp) (by simp))).mono (fun e w' ⟨he, k1, k2⟩ => ⟨⟨_, he⟩, (H9.out.chs (Ch.refl _ _).drew).its (by rw [HMK.out]; exact k1) k2, (Ch.refl [rb] w9).drew.trans' k2⟩))
          have HKT : Hid (∀ W T, Ch T w9 W → (∀ y ∈ T, w.heap.size ≤ y) → W.cell? ⟨bh, oh + j * 4, none⟩ = some (.int .u8 xk) ∧ W.cell? ⟨bh, oh + j * 4 + 1, none⟩ = some (.int .u8 xc) ∧ W.cell? ⟨bh, oh + j * 4 + 2, none⟩ = some (.int .u64 xa) ∧ W.cell? ⟨bh, oh + j * 4 + 3, none⟩ = some (.int .u64 xb)) := Lib.hid (fun W T c hT => by
            refine HKS.out W (s :: T) ((C9.out.mono (by simp)).trans' (c.mono (fun x hx => by simp [hx]))) (fun y hy => ?_)
            rcases List.mem_cons.1 hy with rfl | hy
            · exact HHS.out.1
            · exact hT y hy)
          clear d0 d1 d2 d3 HM1 H9
          go_wp2_with fail
          go_region_held3 (fun w' => w'.cell? ⟨bh, oh + j * 4, none⟩ = some (.int .u8 xk) ∧ w'.cell? ⟨bh, oh + j * 4 + 1, none⟩ = some (.int .u8 xc) ∧ w'.cell? ⟨bh, oh + j * 4 + 2, none⟩ = some (.int .u64 xa) ∧ w'.cell? ⟨bh, oh + j * 4 + 3, none⟩ = some (.int .u64 xb)) (first | exact HKX.out | (refine HKT.out _ [] ?_ (fun y hy => nomatch hy) <;> repeat (first | exact Ch.refl _ _ | apply Ch.drew))) (first | (go_at_call 24; refine HM2.out.mono ?_; rintro e wx ⟨⟨zx, rfl⟩, hx9, cx9⟩; have HX := Lib.hid hx9; have HKX := Lib.hid (HKT.out wx [rb] cx9 (fun y hy => by rw [List.mem_singleton.1 hy]; exact HHS.out.2)); clear hx9 cx9))
          all_goals
            go_wp2_with fail
            go_roundw
            case rel => exact ⟨j + 1, F9, by go_num, by omega, by omega, HX.out⟩
            case measure => simp [intOf]; omega
      · as_aux_lemma =>
        have ltI2 : ¬ (j : Int) < 16 := by omega
        have HF : Hid (HH w wr p s F rp rb (madeL cs) (madeL cs)) := Lib.hid (by
          unfold madeL
          rw [HL.out, show min n 16 = j by omega]; exact hh)
        clear hh
        go_wp2_with fail
        go_ret2
        exact ⟨p, s, F, rp, rfl, rb, HF.out⟩
    · as_aux_lemma =>
      obtain rfl : n = j := by omega
      have ltI : ¬ (n : Int) < n := by omega
      have HF : Hid (HH w wr p s F rp rb (madeL cs) (madeL cs)) := Lib.hid (by
        unfold madeL
        rw [HL.out, show min n 16 = n by omega]; exact hh)
      clear hh
      go_wp2_with fail
      go_ret2
      exact ⟨p, s, F, rp, rfl, rb, HF.out⟩
end Go.Proofs.YtefamhdkfdgdjaaDoor.L15
