/-
  MarkDoes' script, opened; the law as its row wants it.
-/
import Derived.Test.YtefamhdkfdgdjaaDoorQFits
import Derived.Test.YtefamhdkfdgdjaaDoorQMDoes
import Derived.Test.YtefamhdkfdgdjaaDoorQMReachR
set_option linter.unusedVariables false
set_option linter.unusedSimpArgs false
set_option maxRecDepth 100000
namespace Go.Proofs.YtefamhdkfdgdjaaDoor.OV
open Go.ChangeShapes Go.WideShapes Go.Deep Go.RowKit Go.Proofs.YtefamhdkfdgdjaaDoor.Hp Go.Proofs.YtefamhdkfdgdjaaDoor.Gp Go.Proofs.YtefamhdkfdgdjaaDoor.Sm Go.Proofs.YtefamhdkfdgdjaaDoor.Gr Go.Proofs.YtefamhdkfdgdjaaDoor.L15
/-- What is known of an opened step. -/
structure StO (w : World) (x : Stp) : Prop where
  ok : StpOk w x
  n : x.ws.length ≤ reachBytes ∧ x.cs.length ≤ reachBytes
theorem open_stp {H : Type} {enc : TypeId × Value → H} {w : World} {base : Nat} {spare : Nat → Bool} {held : Bool} {fuel : Nat} {cs : List Value} {x : DataW H × List MemPlace}
    (h : DataW.trod enc Tryd.prog w base spare held fuel 31 cs = some x) (hw : Fits Tryd.prog 31 x.1) : ∃ y : Stp, StO w y ∧ cs = stC y := by
  obtain ⟨xs, n, rfl, rfl, hl, hx, hf⟩ := DataW.trod_struct Tryd.underlying31 h
  have c7 : Tryd.prog.cellsOf 31 = 7 := by kernel_rfl
  rw [c7] at hl
  match cs, hl with
  | [u0, u1, u2, u3, u4, u5, u6], _ =>
    have g0 : DataW.trod enc Tryd.prog w base spare held n 3 (List.take (Tryd.prog.cellsOf 3) (List.drop 0 [u0, u1, u2, u3, u4, u5, u6])) = xs[0]? := hf 0 _ rfl
    have g1 : DataW.trod enc Tryd.prog w base spare held n 25 (List.take (Tryd.prog.cellsOf 25) (List.drop 1 [u0, u1, u2, u3, u4, u5, u6])) = xs[1]? := hf 1 _ rfl
    have g2 : DataW.trod enc Tryd.prog w base spare held n 26 (List.take (Tryd.prog.cellsOf 26) (List.drop 2 [u0, u1, u2, u3, u4, u5, u6])) = xs[2]? := hf 2 _ rfl
    have g3 : DataW.trod enc Tryd.prog w base spare held n 3 (List.take (Tryd.prog.cellsOf 3) (List.drop 3 [u0, u1, u2, u3, u4, u5, u6])) = xs[3]? := hf 3 _ rfl
    have g4 : DataW.trod enc Tryd.prog w base spare held n 27 (List.take (Tryd.prog.cellsOf 27) (List.drop 4 [u0, u1, u2, u3, u4, u5, u6])) = xs[4]? := hf 4 _ rfl
    have g5 : DataW.trod enc Tryd.prog w base spare held n 27 (List.take (Tryd.prog.cellsOf 27) (List.drop 5 [u0, u1, u2, u3, u4, u5, u6])) = xs[5]? := hf 5 _ rfl
    have g6 : DataW.trod enc Tryd.prog w base spare held n 29 (List.take (Tryd.prog.cellsOf 29) (List.drop 6 [u0, u1, u2, u3, u4, u5, u6])) = xs[6]? := hf 6 _ rfl
    have t0 : Tryd.prog.cellsOf 3 = 1 := by kernel_rfl
    have t1 : Tryd.prog.cellsOf 25 = 1 := by kernel_rfl
    have t2 : Tryd.prog.cellsOf 26 = 1 := by kernel_rfl
    have t4 : Tryd.prog.cellsOf 27 = 1 := by kernel_rfl
    have t6 : Tryd.prog.cellsOf 29 = 1 := by kernel_rfl
    rw [t0] at g0 g3; rw [t1] at g1; rw [t2] at g2; rw [t4] at g4 g5; rw [t6] at g6
    match xs, hx with
    | [y0, y1, y2, y3, y4, y5, y6], _ =>
      obtain ⟨kd, hkd, e0⟩ := open_int1 (g0.trans rfl : _ = some y0)
      obtain ⟨aw, cw, ws, e1, c1, c2, c3, c4⟩ := open_words (g1.trans rfl : _ = some y1)
      obtain ⟨ac, cc, cl, e2, d1, d2, d3, d4⟩ := open_intl (g2.trans rfl : _ = some y2)
      obtain ⟨ce, hce, e3⟩ := open_int1 (g3.trans rfl : _ = some y3)
      obtain ⟨cC, e4, _, w4⟩ := DataW.trod_int Tryd.underlying27 (g4.trans rfl : _ = some y4)
      obtain ⟨cD, e5, _, w5⟩ := DataW.trod_int Tryd.underlying27 (g5.trans rfl : _ = some y5)
      obtain ⟨ow, e6, _, w6⟩ := DataW.trod_int Tryd.underlying29 (g6.trans rfl : _ = some y6)
      have q1 := slice_len Tryd.underlying25 (by decide +kernel) (g1.trans rfl : _ = some y1) (fits_part Tryd.underlying31 hw (j := 1) rfl rfl) _ _ _ e1
      have q2 := slice_len Tryd.underlying26 (by decide +kernel) (g2.trans rfl : _ = some y2) (fits_part Tryd.underlying31 hw (j := 2) rfl rfl) _ _ _ e2
      simp at e0 e1 e2 e3 e4 e5 e6
      have b4 := bounds_u8 w4
      have b5 := bounds_u8 w5
      have b6 := bounds_u64 w6
      refine ⟨⟨kd, aw, cw, ws, ac, cc, cl, ce, cC, cD, ow⟩, ⟨⟨c1.rd, ⟨c3, c4⟩, c2, d1.rd, ⟨d3, d4⟩, ⟨by simp; omega, by simp; omega⟩, ⟨by simp; omega, by simp; omega⟩⟩, ⟨q1, q2⟩⟩, ?_⟩
      rw [e0, e1, e2, e3, e4, e5, e6]; rfl
/-- A script. -/
theorem open_scr {H : Type} {enc : TypeId × Value → H} {w : World} {base : Nat} {spare : Nat → Bool} {held : Bool} {fuel : Nat} {cs : List Value} {x : DataW H × List MemPlace}
    (h : DataW.trod enc Tryd.prog w base spare held fuel 24 cs = some x) (hw : Fits Tryd.prog 24 x.1) : ∃ (ao : Option Addr) (cap : Nat) (r : List Stp), cs = [.slice ao r.length cap] ∧ (∀ i, i < r.length → StO w (r.getD i zS)) ∧ r.length ≤ cap ∧ cap ≤ maxLen ∧
      (r.length = 0 ∨ ∃ b off, ao = some ⟨b, off, none⟩ ∧ ∀ i t, i < r.length → t < 7 → w.cell? ⟨b, off + (i * 7 + t), none⟩ = (stC (r.getD i zS))[t]?) := by
  rcases open_slice Tryd.underlying24 h with ⟨rfl, _⟩ | ⟨a, len, cap, m, n, D, Pl, rfl, hb, hlc, hcm, hm, rfl, hi⟩
  · exact ⟨none, 0, [], rfl, fun i hi => absurd hi (by simp), by simp, by simp [maxLen], .inl rfl⟩
  have c7 : Tryd.prog.cellsOf 31 = 7 := by kernel_rfl
  rw [c7] at hi
  have hml : len ≤ m := by rw [hm]; split <;> omega
  obtain ⟨r, hr, hq⟩ := chosen zS (fun i y => StO w y ∧ ∀ t, t < 7 → w.cell? (a.add (i * 7 + t)) = (stC y)[t]?) len (fun i hil => by
    obtain ⟨cs', hc, ht⟩ := hi i (by omega)
    obtain ⟨y, hy, rfl⟩ := open_stp ht (fits_elem Tryd.underlying24 hw (List.mem_map.2 ⟨i, List.mem_range.2 hil, rfl⟩))
    obtain ⟨_, _, hat⟩ := World.cells?_some hc
    exact ⟨y, hy, fun t ht4 => by rw [← hat t ht4, Go.Deep.add_add]⟩)
  refine ⟨some a, cap, r, by rw [hr], fun i hi => (hq i (by omega)).1, by omega, hcm, ?_⟩
  by_cases h0 : len = 0
  · left; rw [hr, h0]
  · right
    have ha : a.spot = none := by
      have h1 := (hq 0 (by omega)).2 0 (by omega)
      obtain ⟨ab, ao, asp⟩ := a
      cases asp with
      | none => rfl
      | some z =>
        simp [Addr.add, World.cell?, stC, opA] at h1
        split at h1 <;> simp at h1
    obtain ⟨ab, ao, asp⟩ := a
    simp only at ha
    subst ha
    refine ⟨ab, ao, rfl, fun i t hil ht => ?_⟩
    have hg := (hq i (by omega)).2 t ht
    rw [← hg]
    by_cases hj0 : i * 7 + t = 0
    · rw [hj0]; rfl
    · simp only [Addr.add, hj0, if_false]
theorem MarkDoes_row (W : World) (ao bo : Option Addr) (cap cb : Nat) (h : List Gp.Cel) (sc : List Stp) (hr : RdF W ao (h.length * 4) (Gp.flat h) []) (hh : ∀ y ∈ h, Gp.InR y) (hs : ∀ i, i < sc.length → StO W (sc.getD i zS))
    (hb : sc.length = 0 ∨ ∃ b off, bo = some ⟨b, off, none⟩ ∧ ∀ i t, i < sc.length → t < 7 → W.cell? ⟨b, off + (i * 7 + t), none⟩ = (stC (sc.getD i zS))[t]?) (hbd : Wd.Bnd W) (h0 : h.length ≤ 140737488351232) (h1 : sc.length ≤ 140737488351232) :
    Calls Tryd.prog 4 #[.slice ao h.length cap, .slice bo sc.length cb] W fun e w' => e = .returned (.bool true) ∧ Ch [] W w' :=
  MarkDoes_any W ao h.length cap (h.map back) (by simp) h0 (by rw [back_flat]; exact hr.rd) (back_in hh) bo sc.length cb sc rfl h1 hb (fun i hi => (hs i hi).ok) (fun i hi => by have := (hs i hi).n; unfold reachBytes at this; exact this) hbd
end Go.Proofs.YtefamhdkfdgdjaaDoor.OV
