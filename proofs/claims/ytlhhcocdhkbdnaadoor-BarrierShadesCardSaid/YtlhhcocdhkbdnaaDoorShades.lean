/-
  THE LAW BarrierShades.
-/
import Derived.Test.YtlhhcocdhkbdnaaDoorRef13
import Derived.Test.YtlhhcocdhkbdnaaDoorLentC
import Derived.Test.YtlhhcocdhkbdnaaDoorBook13
import Derived.Deep.DeepCutAuto
import Derived.Deep.CutBlock
set_option linter.unusedVariables false
set_option linter.unusedSimpArgs false
set_option maxRecDepth 100000
namespace Go.Proofs.YtlhhcocdhkbdnaaDoor.L13
open Go.RowKit Go.Proofs.YtlhhcocdhkbdnaaDoor.Wd Go.Proofs.YtlhhcocdhkbdnaaDoor.Hp Go.Proofs.YtlhhcocdhkbdnaaDoor.Gp Go.Proofs.YtlhhcocdhkbdnaaDoor.Sm Go.Proofs.YtlhhcocdhkbdnaaDoor.Gr Go.Proofs.YtlhhcocdhkbdnaaDoor.Bp Go.Proofs.YtlhhcocdhkbdnaaDoor.Own
/-- The colour that a cell's owner gives it. -/
def recol (x : Cel) : Cel := ⟨x.k, (x.c + 1) % 256 % 3, x.a, x.b⟩
theorem recol_in {x : Cel} (h : InR x) : InR (recol x) := by
  obtain ⟨h1, h2, h3, h4, h5, h6⟩ := h
  exact ⟨h1, h2, by simp only [recol]; omega, by simp only [recol]; omega, h5, h6⟩
theorem map_in {h : List Cel} (hh : ∀ x ∈ h, InR x) : ∀ x ∈ h.map recol, InR x := by
  intro x hx
  obtain ⟨y, hy, rfl⟩ := List.mem_map.1 hx
  exact recol_in (hh y hy)
/-- A row lies in blocks that are there. -/
theorem Row.trim {w : World} {e : TypeId} {sz n : Nat} {qs : List Nat} {v : Value} {xs : List Value} (h : Row w e sz v qs n xs) : ∃ rs, Row w e sz v rs n xs ∧ ∀ y ∈ rs, y ∈ qs ∧ y < w.heap.size := by
  obtain ⟨hl, ao, cap, rfl, g1, g2, g3, g4⟩ := h
  rcases g4 with g4 | ⟨q, off, arr, k1, k2, k3, k4, k5⟩
  · exact ⟨[], ⟨hl, ao, cap, rfl, g1, g2, g3, .inl g4⟩, by simp⟩
  · exact ⟨[q], ⟨hl, ao, cap, rfl, g1, g2, g3, .inr ⟨q, off, arr, by simp, k2, k3, k4, k5⟩⟩, fun y hy => by simp at hy; subst hy; exact ⟨k1, lt_of k3⟩⟩
/-- Two lists of one round go into the book. -/
theorem two_in {w0 w w1 w2 w3 : World} {O : Nat → Nat} {bp k : Nat} (hg : G w0 w O) (hb : Bk w O bp (2 * k)) {vx vy : Value} {qx qy : List Nat} {nx ny : Nat} {xs ys : List Value}
    (hx : Row w1 3 1 vx qx nx xs) (c1 : Ch [] w w1) (hqx : ∀ q ∈ qx, w.heap.size ≤ q) (hy : Row w2 3 1 vy qy ny ys) (c2 : Ch [] w1 w2) (hqy : ∀ q ∈ qy, w1.heap.size ≤ q) (c3 : Ch [] w2 w3) (hk : k ≤ 2) (hnx : nx ≤ 1000000) (hny : ny ≤ 1000000) :
    Calls Tryd.prog 18 #[.pointer (some ⟨bp, 0, none⟩), vx] w3 fun e w4 => e = .returned (.tuple #[]) ∧
      Calls Tryd.prog 18 #[.pointer (some ⟨bp, 0, none⟩), vy] w4 fun e w5 => e = .returned (.tuple #[]) ∧ ∃ O', G w0 w5 O' ∧ Bk w5 O' bp (2 * (k + 1)) := by
  obtain ⟨rx, hrx, hbx⟩ := Row.trim hx
  obtain ⟨ry, hry, hby⟩ := Row.trim hy
  have cc := (c1.trans' c2).trans' c3
  have s1 := c1.size
  have s2 := c2.size
  have s3 := c3.size
  have hz : ∀ y, w.heap.size ≤ y → O y = 0 := fun y hy => Decidable.byContradiction fun h => by have := hg.ow y h; omega
  have hg3 : G w0 w3 O := hg.step cc (by simp)
  refine (Ints_bk hg3 (hb.ch cc) (hrx.ch (c2.trans' c3) (by simp)) (fun y hy => ?_) hnx (by omega)).mono ?_
  · have e1 := hqx y (hbx y hy).1
    have e2 := (hbx y hy).2
    have := hg.ch.size
    exact ⟨hz y e1, by omega, by omega⟩
  rintro e w4 ⟨he, O1, T, hG1, hE1, hB1, hC1, hT1, hZ1⟩
  have sz := hC1.size
  have hyz : ∀ y ∈ ry, O1 y = 0 ∧ w0.heap.size ≤ y ∧ y < w4.heap.size := fun y hy => by
    have e1 := hqy y (hby y hy).1
    have e2 := (hby y hy).2
    have := hg.ch.size
    refine ⟨(hZ1 y (by omega) (hz y (by omega))).2 (fun hm => ?_), by omega, by omega⟩
    have e3 := (hbx y hm).2
    omega
  refine ⟨he, (Ints_bk hG1 hB1 ((hry.ch c3 (by simp)).ch hC1 (fun y hy hm => ?_)) hyz hny (by omega)).mono ?_⟩
  · have e1 := hqy y (hby y hy).1
    have e4 := hz y (by omega)
    rcases hT1 y hm with h | h <;> omega
  rintro e w5 ⟨he2, O2, T2, hG2, hE2, hB2, hC2, hT2, hZ2⟩
  exact ⟨he2, O2, hG2, hB2⟩
end Go.Proofs.YtlhhcocdhkbdnaaDoor.L13
