/-
  MarkReach as its row wants it: the lists as the inputs open them.
-/
import Derived.Test.YtefamhdkfdgdjaaDoorQMReach
import Derived.Test.YtefamhdkfdgdjaaDoorQFits
set_option linter.unusedVariables false
set_option linter.unusedSimpArgs false
set_option maxRecDepth 100000
namespace Go.Proofs.YtefamhdkfdgdjaaDoor.L15
open Go.RowKit Go.Proofs.YtefamhdkfdgdjaaDoor.Wd Go.Proofs.YtefamhdkfdgdjaaDoor.Hp Go.Proofs.YtefamhdkfdgdjaaDoor.Cl Go.Proofs.YtefamhdkfdgdjaaDoor.Mk Go.Proofs.YtefamhdkfdgdjaaDoor.Mr Go.Proofs.YtefamhdkfdgdjaaDoor.Sm Go.Proofs.YtefamhdkfdgdjaaDoor.Gr
def back (x : Gp.Cel) : Cp.Cel := ⟨x.k, x.c, x.a, x.b⟩
theorem back_flat (l : List Gp.Cel) : Cl.flat (l.map back) = Gp.flat l := by
  rw [← conv_flat, List.map_map]
  congr 1
  exact (List.map_congr_left (fun x _ => rfl)).trans (List.map_id l)
theorem back_in {l : List Gp.Cel} (h : ∀ x ∈ l, Gp.InR x) : ∀ x ∈ l.map back, InC x := fun x hx => by
  obtain ⟨y, hy, rfl⟩ := List.mem_map.1 hx
  exact h y hy
theorem MarkReach_row (W : World) (ao aw ar : Option Addr) (cap cw cr : Nat) (h : List Gp.Cel) (ws more : List Int) (x : Int) (hr : RdF W ao (h.length * 4) (Gp.flat h) []) (hrw : RdF W aw ws.length (ints .u64 ws) []) (hrm : RdF W ar more.length (ints .u64 more) [])
    (hh : ∀ y ∈ h, Gp.InR y) (hu : ∀ v ∈ ws, Gp.u64 v) (hu2 : ∀ v ∈ more, Gp.u64 v) (hx : -9223372036854775808 ≤ x ∧ x ≤ 9223372036854775807) (hb : Bnd W) (h0 : h.length ≤ 140737488351232) (h1 : ws.length ≤ 140737488351232) (h2 : more.length ≤ 140737488351232) :
    Calls Tryd.prog 5 #[.slice ao h.length cap, .slice aw ws.length cw, .slice ar more.length cr, .int .i64 x] W fun e w' => e = .returned (.bool true) ∧ Ch [] W w' :=
  MarkReach_any W ao h.length cap (h.map back) (by simp) h0 (by rw [back_flat]; exact hr.rd) (back_in hh) aw ws.length cw ws h1 hrw.rd hu ar more.length cr more h2 hrm.rd hu2 x hx hb
end Go.Proofs.YtefamhdkfdgdjaaDoor.L15
