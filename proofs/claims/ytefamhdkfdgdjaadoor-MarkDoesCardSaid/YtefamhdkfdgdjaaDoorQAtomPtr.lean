/-
  sync/atomic's pointers in one goroutine: LoadPointer, CompareAndSwapPointer, SwapPointer, and the walks of atomic.Pointer[api.Cell] over them.
-/
import Derived.Test.YtefamhdkfdgdjaaDoorProg
import Derived.Test.YtefamhdkfdgdjaaDoorQJApp
import Derived.Laws.LoneSync
import Derived.Lib.Builder
import Derived.KernelRfl
set_option linter.unusedVariables false
set_option linter.unusedSimpArgs false
set_option maxRecDepth 100000
namespace Go.Proofs.YtefamhdkfdgdjaaDoor.Ato
open Go.RowKit Go.Proofs.YtefamhdkfdgdjaaDoor.Hp

section
variable {P : Program} {f : FuncId} {fn : Func}
theorem run_loadp (hf : P.funcs[f]? = some fn) (hname : (fn.name == "runtime.NumGoroutine") = false) (hb : fn.body.isNone = true) (hn : Extern.findNext fn = none)
    (he : Extern.find fn = some (Extern.Atomic.loadT .ptr)) {a : Addr} {x : Option Addr} {w : World} (hc : w.cell? a = some (.pointer x)) :
    (callFunc f #[.pointer (some a)]).run P w = .ok (.value (.pointer x)) w := by
  rw [run_callFunc_extern hf hname hb hn he]
  change (Sem.run P (do Extern.Atomic.read .ptr (← asAddr (.pointer (some a)))) w).andThen _ = _
  simp [Extern.Atomic.read, asAddr, hc, Result.andThen]
theorem run_swapp (hf : P.funcs[f]? = some fn) (hname : (fn.name == "runtime.NumGoroutine") = false) (hb : fn.body.isNone = true) (hn : Extern.findNext fn = none)
    (he : Extern.find fn = some (Extern.Atomic.swapT .ptr)) {a : Addr} {x y : Option Addr} {w : World} (hc : w.cell? a = some (.pointer x)) (hz : w.frozen? a = false) :
    (callFunc f #[.pointer (some a), .pointer y]).run P w = .ok (.value (.pointer x)) (w.setCell a (.pointer y)) := by
  rw [run_callFunc_extern hf hname hb hn he]
  change (Sem.run P (do
    let a' ← asAddr (.pointer (some a))
    let old ← Extern.Atomic.read .ptr a'
    store a' (.pointer y) .atomic
    pure old) w).andThen _ = _
  simp [Extern.Atomic.read, asAddr, hc, hz, run_store P w a (.pointer y) .atomic rfl, Result.andThen]
theorem run_casp (hf : P.funcs[f]? = some fn) (hname : (fn.name == "runtime.NumGoroutine") = false) (hb : fn.body.isNone = true) (hn : Extern.findNext fn = none)
    (he : Extern.find fn = some (Extern.Atomic.casT .ptr)) {a : Addr} {x o y : Option Addr} {r : Bool} {w : World} (hc : w.cell? a = some (.pointer x)) (hz : w.frozen? a = false)
    (hs : (samePointer x o).run P w = .ok r w) :
    (callFunc f #[.pointer (some a), .pointer o, .pointer y]).run P w = .ok (.value (.bool r)) (if r then w.setCell a (.pointer y) else w) := by
  rw [run_callFunc_extern hf hname hb hn he]
  change (Sem.run P (do
    let a' ← asAddr (.pointer (some a))
    if ← Extern.Atomic.touchesFrozen a' then unsupported (.unsafePointer "a write to bytes that a string shares")
    let eq ← match Extern.Atomic.T.ptr, ← Extern.Atomic.read .ptr a', Value.pointer o with
      | _, .int _ x, .int _ y => pure (x == y)
      | .ptr, .pointer x, .pointer y => samePointer x y
      | .int _, .pointer (some _), .int _ 0 | .int _, .int _ 0, .pointer (some _) => pure false
      | .int _, .pointer (some _), _ | .int _, _, .pointer (some _) => unsupported .addressObserved
      | _, _, _ => stuck "atomic.CompareAndSwap: old is no T"
    if eq then store a' (.pointer y) .atomic
    pure (Value.bool eq)) w).andThen _ = _
  cases r <;> simp [Extern.Atomic.touchesFrozen, Extern.Atomic.read, asAddr, viewAt, World.shape?_isSome_of_cell? hc, hc, hz, hs, run_store P w a (.pointer y) .atomic rfl, Result.andThen]
theorem same_nil (w : World) : (samePointer none none).run P w = .ok true w := rfl
theorem same_self (a : Addr) (w : World) : (samePointer (some a) (some a)).run P w = .ok true w := by simp [samePointer, sameAddr]
theorem same_some (a : Addr) (w : World) : (samePointer (some a) none).run P w = .ok false w := rfl
end

/-- Where a pointer of a heap's cell may lead: nowhere, or to the head of a block of its own. -/
def Slot (w : World) (po : Option Addr) : Prop := po = none ∨ ∃ x arr, po = some ⟨x, 0, none⟩ ∧ w.heap[x]? = some (.cells arr 86 (0, 0)) ∧ arr.size = 4
theorem liesCell : liesAt Tryd.prog Tryd.prog.depth 86 (4 / Tryd.prog.cellsOf 86) 0 86 1 = true := by kernel_rfl
theorem sizeCell : (Tryd.prog.info? 86).map (fun i => i.size) = some 4 := by kernel_rfl

theorem to_unsafe (w : World) (po : Option Addr) (h : Slot w po) : (convert 135 139 (.pointer po)).run Tryd.prog w = .ok (.pointer po) w := by
  rcases h with rfl | ⟨x, arr, rfl, hh, hs⟩
  · rfl
  · obtain ⟨j, hj, hz⟩ := Option.map_eq_some_iff.1 sizeCell
    have hsh : w.shape? x = some (86, arr.size) := by simp [World.shape?, hh]
    exact Lib.run_to_unsafe _ _ Tryd.underlying135 Tryd.underlying139 hj (by omega) hsh (by rw [hs]; show 0 < 4; decide)
theorem from_unsafe (w : World) (po : Option Addr) (h : Slot w po) : (convert 139 135 (.pointer po)).run Tryd.prog w = .ok (.pointer po) w := by
  rcases h with rfl | ⟨x, arr, rfl, hh, hs⟩
  · rfl
  · obtain ⟨j, hj, hz⟩ := Option.map_eq_some_iff.1 sizeCell
    have hsh : w.shape? x = some (86, 4) := by simp [World.shape?, hh, hs]
    exact Lib.run_from_unsafe _ _ Tryd.underlying139 Tryd.underlying135 hj hsh liesCell

theorem Load_any (w : World) (b off : Nat) (po : Option Addr) (hc : w.cell? ⟨b, off, none⟩ = some (.pointer po)) (hp : Slot w po) :
    Calls Tryd.prog 70 #[.pointer (some ⟨b, off, none⟩)] w fun e w' => e = .returned (.pointer po) ∧ w = w' := by
  have h1 := run_loadp (P := Tryd.prog) Tryd.func89 (by kernel_rfl) (by kernel_rfl) (by kernel_rfl) (by kernel_rfl) hc
  have h2 := from_unsafe w po hp
  clear hp
  go_enter Tryd.func70, Tryd.ntmps70
  go_wp2
  go_ret
  exact ⟨rfl, rfl⟩
theorem Swap_any (w : World) (b off : Nat) (po pn : Option Addr) (hc : w.cell? ⟨b, off, none⟩ = some (.pointer po)) (hz : w.frozen? ⟨b, off, none⟩ = false) (hp : Slot w po) (hn : Slot w pn) (hp' : Slot (w.setCell ⟨b, off, none⟩ (.pointer pn)) po) :
    Calls Tryd.prog 80 #[.pointer (some ⟨b, off, none⟩), .pointer pn] w fun e w' => e = .returned (.pointer po) ∧ w' = w.setCell ⟨b, off, none⟩ (.pointer pn) := by
  have h1 := run_swapp (P := Tryd.prog) Tryd.func91 (by kernel_rfl) (by kernel_rfl) (by kernel_rfl) (by kernel_rfl) (y := pn) hc hz
  have h2 := from_unsafe _ po hp'
  have h3 := to_unsafe w pn hn
  clear hp hn hp'
  go_enter Tryd.func80, Tryd.ntmps80
  go_wp2
  go_ret
  exact ⟨rfl, rfl⟩
theorem Cas_hit (w : World) (b off : Nat) (po pn : Option Addr) (hc : w.cell? ⟨b, off, none⟩ = some (.pointer po)) (hz : w.frozen? ⟨b, off, none⟩ = false) (hp : Slot w po) (hn : Slot w pn) :
    Calls Tryd.prog 69 #[.pointer (some ⟨b, off, none⟩), .pointer po, .pointer pn] w fun e w' => e = .returned (.bool true) ∧ w' = w.setCell ⟨b, off, none⟩ (.pointer pn) := by
  have hs : (samePointer po po).run Tryd.prog w = .ok true w := by
    cases po with
    | none => exact same_nil w
    | some a => exact same_self a w
  have h1 := run_casp (P := Tryd.prog) Tryd.func88 (by kernel_rfl) (by kernel_rfl) (by kernel_rfl) (by kernel_rfl) (y := pn) hc hz hs
  have h2 := to_unsafe w po hp
  have h3 := to_unsafe w pn hn
  clear hp hn hs
  simp only [if_true] at h1
  go_enter Tryd.func69, Tryd.ntmps69
  go_wp2
  go_ret
  exact ⟨rfl, rfl⟩
theorem Cas_miss (w : World) (b off : Nat) (a : Addr) (pn : Option Addr) (hc : w.cell? ⟨b, off, none⟩ = some (.pointer (some a))) (hz : w.frozen? ⟨b, off, none⟩ = false) (hn : Slot w pn) :
    Calls Tryd.prog 69 #[.pointer (some ⟨b, off, none⟩), .pointer none, .pointer pn] w fun e w' => e = .returned (.bool false) ∧ w' = w := by
  have h1 := run_casp (P := Tryd.prog) Tryd.func88 (by kernel_rfl) (by kernel_rfl) (by kernel_rfl) (by kernel_rfl) (y := pn) hc hz (same_some a w)
  have h2 := to_unsafe w none (.inl rfl)
  have h3 := to_unsafe w pn hn
  clear hn
  simp only [Bool.false_eq_true, if_false] at h1
  go_enter Tryd.func69, Tryd.ntmps69
  go_wp2
  go_ret
  exact ⟨rfl, rfl⟩
end Go.Proofs.YtefamhdkfdgdjaaDoor.Ato
