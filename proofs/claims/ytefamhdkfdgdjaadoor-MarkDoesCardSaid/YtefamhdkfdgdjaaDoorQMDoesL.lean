/-
  MarkDoes' script in memory, its length; the state at the start and behind Own (no walk).
-/
import Derived.Test.YtefamhdkfdgdjaaDoorQMDoes5
set_option linter.unusedVariables false
set_option linter.unusedSimpArgs false
set_option maxRecDepth 100000
namespace Go.Proofs.YtefamhdkfdgdjaaDoor.L15
open Go.RowKit Go.Proofs.YtefamhdkfdgdjaaDoor.Wd Go.Proofs.YtefamhdkfdgdjaaDoor.Hp Go.Proofs.YtefamhdkfdgdjaaDoor.Cp Go.Proofs.YtefamhdkfdgdjaaDoor.Cl Go.Proofs.YtefamhdkfdgdjaaDoor.Mk Go.Proofs.YtefamhdkfdgdjaaDoor.R03 Go.Proofs.YtefamhdkfdgdjaaDoor.R15 Go.Proofs.YtefamhdkfdgdjaaDoor.Sm Go.Proofs.YtefamhdkfdgdjaaDoor.Own
/-- A step of a script. -/
structure Stp where
  kd : Int
  aw : Option Addr
  cw : Nat
  ws : List Int
  ac : Option Addr
  cc : Nat
  cs : List Int
  ce : Int
  cC : Int
  cD : Int
  ow : Int
def zS : Stp := ⟨0, none, 0, [], none, 0, [], 0, 0, 0, 0⟩
def stC (x : Stp) : List Value := (opA x.kd x.aw x.ws.length x.cw x.ac x.cs.length x.cc x.ce x.cC x.cD x.ow).toList
def StpOk (w : World) (x : Stp) : Prop := Hp.Rd w x.aw x.ws.length (ints .u64 x.ws) ∧ (x.ws.length ≤ x.cw ∧ x.cw ≤ maxLen) ∧ (∀ v ∈ x.ws, 0 ≤ v ∧ v < 18446744073709551616) ∧ Hp.Rd w x.ac x.cs.length (ints .i64 x.cs) ∧ (x.cs.length ≤ x.cc ∧ x.cc ≤ maxLen) ∧ (0 ≤ x.cC ∧ 0 ≤ x.cD) ∧ (0 ≤ x.ow ∧ x.ow < 18446744073709551616)
/-- How long a script is. -/
def cost (x : Stp) : Nat := 1 + x.ws.length + x.cs.length
def tot (l : List Stp) : Nat → Nat
  | 0 => 0
  | k + 1 => tot l k + cost (l.getD k zS)
theorem tot_ge (l : List Stp) : ∀ k, k ≤ tot l k
  | 0 => Nat.le_refl _
  | k + 1 => by have := tot_ge l k; simp only [tot, cost]; omega
theorem tot_mono (l : List Stp) {j k : Nat} (h : j ≤ k) : tot l j ≤ tot l k := by
  induction k with
  | zero => obtain rfl : j = 0 := by omega
            exact Nat.le_refl _
  | succ k ih =>
    by_cases e : j = k + 1
    · subst e; exact Nat.le_refl _
    · have := ih (by omega); simp only [tot]; omega
theorem cost_le (l : List Stp) {j k : Nat} (h : j < k) : tot l j + cost (l.getD j zS) ≤ tot l k := tot_mono l (show j + 1 ≤ k by omega)
theorem StpOk.ch {w w' : World} {x : Stp} (h : StpOk w x) (hc : Ch [] w w') : StpOk w' x := ⟨h.1.ch hc, h.2.1, h.2.2.1, h.2.2.2.1.ch hc, h.2.2.2.2⟩
theorem StpOk.opI {w : World} {x : Stp} (h : StpOk w x) (hn : cost x ≤ 20001) : OpI w x.aw x.ws.length x.cw x.ws x.ac x.cs.length x.cc x.cs x.cC x.cD x.ow := by
  obtain ⟨a, b, c, d, e, f, g⟩ := h
  unfold cost at hn
  exact ⟨a, b, c, d, e, ⟨by omega, by omega⟩, f, g⟩
theorem zero_opI (w : World) : OpI w none 0 0 [] none 0 0 [] 0 0 0 := ⟨⟨rfl, .inl rfl⟩, ⟨by omega, by unfold maxLen; omega⟩, by simp, ⟨rfl, .inl rfl⟩, ⟨by omega, by unfold maxLen; omega⟩, ⟨by omega, by omega⟩, ⟨by omega, by omega⟩, ⟨by omega, by omega⟩⟩
/-- The state at the start: marker, the document's marker, a book. -/
theorem DS.start {w0 w5 : World} {p s : Nat} {F : List Nat} {rp rb : Nat} {l : List Cel} {mp : Nat} {w4 : World} (hh : HH w0 w4 p s F rp rb l l) (hm : MM w5 mp p s F l [] []) (hmp : mp = w4.heap.size) (hc : Ch [] w4 w5) (hsz : mp < w5.heap.size) :
    DS w0 ((w5.alloc (.cells #[.pointer (some ⟨rp, 0, none⟩), .slice none 0 0] 40)).alloc (.cells (bookArr (.slice none 0 0) (.slice none 0 0) (.slice none 0 0) (.slice none 0 0) (.slice none 0 0)) 60))
      (put (put (put (fun _ => 0) 1 (mp :: F)) 2 [w5.heap.size, rp, rb]) 5 [w5.heap.size + 1]) (w5.heap.size + 1) 0 mp p s F [] l [] w5.heap.size rp rb [] l [] := by
  have c1 : Ch [] w5 (w5.alloc (.cells #[.pointer (some ⟨rp, 0, none⟩), .slice none 0 0] 40)) := (Ch.refl _ _).alloc _
  have hsz1 : (w5.alloc (.cells #[.pointer (some ⟨rp, 0, none⟩), .slice none 0 0] 40)).heap.size = w5.heap.size + 1 := World.size_alloc _ _
  have hq := heap_new w5 (.cells #[.pointer (some ⟨rp, 0, none⟩), .slice none 0 0] 40)
  generalize w5.alloc (.cells #[.pointer (some ⟨rp, 0, none⟩), .slice none 0 0] 40) = w6 at *
  have s4 := hc.size
  have s0 := hh.ch.size
  have hrl := hh.rlt
  have hrn := hh.rnew
  have g0 : G w0 w6 (fun _ => 0) := ⟨(hh.ch.trans' hc).trans' c1, fun x hx => absurd rfl hx⟩
  have hF1 : ∀ x ∈ mp :: F, w0.heap.size ≤ x ∧ x < w4.heap.size + 1 := fun x hx => by
    rcases List.mem_cons.1 hx with e | hx
    · omega
    · exact ⟨hh.fnew x hx, by have := hh.is.lt x hx; omega⟩
  have g1 := g0.put 1 (mp :: F) (fun x hx => .inr (by have := hF1 x hx; omega))
  have g2 := g1.put 2 [w5.heap.size, rp, rb] (fun x hx => .inr (by simp at hx; omega))
  obtain ⟨g3, b3⟩ := Bk.new g2
  rw [hsz1] at g3 b3
  have c2 : Ch [] w6 (w6.alloc (.cells (bookArr (.slice none 0 0) (.slice none 0 0) (.slice none 0 0) (.slice none 0 0) (.slice none 0 0)) 60)) := (Ch.refl _ _).alloc _
  have n5 : ∀ x, x ≤ w5.heap.size → x ∉ [w5.heap.size + 1] := fun x hx => by simp; omega
  refine ⟨g3, b3, (hm.ch0 c1).ch0 c2, ?_, fun x hx => ?_, fun x hx => ?_⟩
  · have : RK w6 w5.heap.size rp rb l [] [] := ⟨⟨.slice none 0 0, hq, Row.nil _ _ _ _⟩, (hh.rh.ch hc (by simp) (by simp)).ch c1 (by simp) (by simp), ⟨by omega, by omega⟩, by simp, by simp⟩
    exact this.ch0 c2
  · rw [List.append_nil] at hx
    have h1 := hF1 x hx
    unfold put
    rw [if_neg (n5 x (by omega)), if_neg, if_pos hx]
    simp only [List.mem_cons, List.not_mem_nil, or_false]
    intro h2
    rcases List.mem_cons.1 hx with e | hx
    · omega
    · have hxl := hh.is.lt x hx
      rcases h2 with e | e | e
      · omega
      · exact hh.ap.1 (e ▸ hx)
      · exact hh.ap.2 (e ▸ hx)
  · unfold put
    rw [if_neg (n5 x (by simp at hx; omega)), if_pos hx]
/-- Behind Own: another book. -/
theorem DS.own {w0 w w' : World} {O : Nat → Nat} {bp ni mp p s : Nat} {F rq : List Nat} {l : List Cel} {row : List Int} {qp rp rb : Nat} {rq2 : List Nat} {l2 : List Cel} {row2 : List Int} {T : List Nat} (h : DS w0 w O bp ni mp p s F rq l row qp rp rb rq2 l2 row2) (hc : Ch T w w') (hT : ∀ x ∈ T, O x = 7) :
    DS w0 (w'.alloc (.cells (bookArr (.slice none 0 0) (.slice none 0 0) (.slice none 0 0) (.slice none 0 0) (.slice none 0 0)) 60)) (put O 5 [w'.heap.size]) w'.heap.size 0 mp p s F rq l row qp rp rb rq2 l2 row2 := by
  have g1 := h.g.step hc (fun x hx => .inl (by rw [hT x hx]; omega))
  obtain ⟨g3, b3⟩ := Bk.new g1
  have c2 : Ch [] w' (w'.alloc (.cells (bookArr (.slice none 0 0) (.slice none 0 0) (.slice none 0 0) (.slice none 0 0) (.slice none 0 0)) 60)) := (Ch.refl _ _).alloc _
  have a1 : ∀ x ∈ mp :: (F ++ rq), x ∉ T := fun x hm => apart (h.o1 x hm) (fun y hy => by rw [hT y hy]; omega)
  have a2 : ∀ x ∈ qp :: rp :: rb :: rq2, x ∉ T := fun x hm => apart (h.o2 x hm) (fun y hy => by rw [hT y hy]; omega)
  have hx : ∀ x, O x ≠ 0 → put O 5 [w'.heap.size] x = O x := fun x hx => by
    unfold put; rw [if_neg]
    have := g1.ow x hx
    simp; omega
  exact ⟨g3, b3, (h.mm.ch hc (a1 _ (by simp)) (fun b hb => a1 b (by simp [hb])) (fun q hq => a1 q (by simp [hq]))).ch0 c2, (h.rk.ch hc (a2 _ (by simp)) (a2 _ (by simp)) (a2 _ (by simp)) (fun q hq => a2 q (by simp [hq]))).ch0 c2, fun x hm => by rw [hx x (by rw [h.o1 x hm]; omega)]; exact h.o1 x hm, fun x hm => by rw [hx x (by rw [h.o2 x hm]; omega)]; exact h.o2 x hm⟩
end Go.Proofs.YtefamhdkfdgdjaaDoor.L15
