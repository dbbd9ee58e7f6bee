/-
  THE WALKS of dappleref00.Book: lists are put into it; Own.
-/
import Derived.Test.YtlhhcocdhkbdnaaDoorOwnNil
import Derived.Test.YtlhhcocdhkbdnaaDoorOwnPre2
import Derived.Deep.OwnRows
set_option linter.unusedVariables false
set_option linter.unusedSimpArgs false
set_option maxRecDepth 100000
namespace Go.Proofs.YtlhhcocdhkbdnaaDoor.Own
open Go.RowKit Go.Proofs.YtlhhcocdhkbdnaaDoor.Hp

/-- A book's block: its lists of ints, words, cells, waiters, bools; it has no others. -/
def bookArr (iv wv cv tv bv : Value) : Array Value := #[.slice none 0 0, .slice none 0 0, iv, .slice none 0 0, .slice none 0 0, wv, cv, .slice none 0 0, .slice none 0 0, tv, .slice none 0 0, .slice none 0 0, .slice none 0 0, .slice none 0 0, .slice none 0 0, .slice none 0 0, bv]
def IsBook (w : World) (bp : Nat) (iv wv cv tv bv : Value) : Prop := w.heap[bp]? = some (.cells (bookArr iv wv cv tv bv) 49 (0, 0))

set_option maxHeartbeats 2000000 in
theorem Own_gen (w : World) (bp : Nat) (ai aw ac at' ab : Option Addr) (ni nw nc nt nb ci cw cc ct cb : Nat) (hb : IsBook w bp (.slice ai ni ci) (.slice aw nw cw) (.slice ac nc cc) (.slice at' nt ct) (.slice ab nb cb)) (Si Sw Sc St Sb : List Nat)
    (h1 : bp ∉ Si) (h2 : bp ∉ Sw) (h3 : bp ∉ Sc) (h4 : bp ∉ St) (h5 : bp ∉ Sb)
    (HI : ∀ w', Ch [] w w' → Calls Tryd.prog 45 #[.slice ai ni ci] w' fun e w'' => (e = .returned (.bool true)) ∧ Ch Si w' w'')
    (HW : ∀ w', Ch Si w w' → Calls Tryd.prog 48 #[.slice aw nw cw] w' fun e w'' => (e = .returned (.bool true)) ∧ Ch Sw w' w'')
    (HC : ∀ w', Ch (Si ++ Sw) w w' → Calls Tryd.prog 49 #[.slice ac nc cc] w' fun e w'' => (e = .returned (.bool true)) ∧ Ch Sc w' w'')
    (HT : ∀ w', Ch (Si ++ Sw ++ Sc) w w' → Calls Tryd.prog 52 #[.slice at' nt ct] w' fun e w'' => (e = .returned (.bool true)) ∧ Ch St w' w'')
    (HB : ∀ w', Ch (Si ++ Sw ++ Sc ++ St) w w' → Calls Tryd.prog 55 #[.slice ab nb cb] w' fun e w'' => (e = .returned (.bool true)) ∧ Ch Sb w' w'') :
    Calls Tryd.prog 20 #[.pointer (some ⟨bp, 0, none⟩)] w fun e w' => (e = .returned (.bool true)) ∧ Ch (Si ++ Sw ++ Sc ++ St ++ Sb) w w' := by
  unfold IsBook bookArr at hb
  have hlt := lt_of hb
  have GI := Lib.hid HI
  have GW := Lib.hid HW
  have GC := Lib.hid HC
  have GT := Lib.hid HT
  have GB := Lib.hid HB
  have H := Lib.hid hb
  have N1 := Lib.hid h1
  have N2 := Lib.hid h2
  have N3 := Lib.hid h3
  have N4 := Lib.hid h4
  have N5 := Lib.hid h5
  have k0 := cell_at (i := 0) hb
  have k1 := cell_at (i := 1) hb
  have k2 := cell_at (i := 2) hb
  simp only [List.getElem?_toArray, List.getElem?_cons_zero, List.getElem?_cons_succ] at k0 k1 k2
  clear HI HW HC HT HB hb h1 h2 h3 h4 h5 hlt
  go_enter Tryd.func20, Tryd.ntmps20
  go_wp2_with fail
  refine (ownBytes_nil w).mono ?_
  rintro e w' ⟨rfl, rfl⟩
  go_wp2_with fail
  refine (ownTexts_nil w).mono ?_
  rintro e w' ⟨rfl, rfl⟩
  go_wp2_with fail
  refine (GI.out w (Ch.refl _ _)).mono ?_
  rintro e wi ⟨rfl, hc⟩
  have hh := hc.heap H.out N1.out
  have k3 := cell_at (i := 3) hh
  have k4 := cell_at (i := 4) hh
  have k5 := cell_at (i := 5) hh
  simp only [List.getElem?_toArray, List.getElem?_cons_zero, List.getElem?_cons_succ] at k3 k4 k5
  have HC1 := Lib.hid hc
  clear hh hc k0 k1 k2
  go_wp2_with fail
  refine (ownLongs_nil wi).mono ?_
  rintro e w' ⟨rfl, rfl⟩
  go_wp2_with fail
  refine (ownNumbers_nil wi).mono ?_
  rintro e w' ⟨rfl, rfl⟩
  go_wp2_with fail
  refine (GW.out wi HC1.out).mono ?_
  rintro e ww ⟨rfl, hc⟩
  have hc2 : Ch (Si ++ Sw) w ww := (HC1.out.mono (by simp; exact fun x h => .inl h)).trans' (hc.mono (by simp; exact fun x h => .inr h))
  have hh := hc2.heap H.out (by simp [N1.out, N2.out])
  have k6 := cell_at (i := 6) hh
  simp only [List.getElem?_toArray, List.getElem?_cons_zero, List.getElem?_cons_succ] at k6
  have HC2 := Lib.hid hc2
  clear hh hc hc2 k3 k4 k5 HC1
  go_wp2_with fail
  refine (GC.out ww HC2.out).mono ?_
  rintro e wc ⟨rfl, hc⟩
  have hc2 : Ch (Si ++ Sw ++ Sc) w wc := (HC2.out.mono (by simp; exact fun x h => by rcases h with h | h <;> simp [h])).trans' (hc.mono (by simp; exact fun x h => .inr (.inr h)))
  have hh := hc2.heap H.out (by simp [N1.out, N2.out, N3.out])
  have k7 := cell_at (i := 7) hh
  have k8 := cell_at (i := 8) hh
  have k9 := cell_at (i := 9) hh
  simp only [List.getElem?_toArray, List.getElem?_cons_zero, List.getElem?_cons_succ] at k7 k8 k9
  have HC3 := Lib.hid hc2
  clear hh hc hc2 k6 HC2
  go_wp2_with fail
  refine (ownInstrs_nil wc).mono ?_
  rintro e w' ⟨rfl, rfl⟩
  go_wp2_with fail
  refine (ownTokens_nil wc).mono ?_
  rintro e w' ⟨rfl, rfl⟩
  go_wp2_with fail
  refine (GT.out wc HC3.out).mono ?_
  rintro e wt ⟨rfl, hc⟩
  have hc2 : Ch (Si ++ Sw ++ Sc ++ St) w wt := (HC3.out.mono (by simp; exact fun x h => by rcases h with h | h | h <;> simp [h])).trans' (hc.mono (by simp; exact fun x h => .inr (.inr (.inr h))))
  have hh := hc2.heap H.out (by simp [N1.out, N2.out, N3.out, N4.out])
  have k10 := cell_at (i := 10) hh
  have k11 := cell_at (i := 11) hh
  have k12 := cell_at (i := 12) hh
  have k13 := cell_at (i := 13) hh
  have k14 := cell_at (i := 14) hh
  have k15 := cell_at (i := 15) hh
  have k16 := cell_at (i := 16) hh
  simp only [List.getElem?_toArray, List.getElem?_cons_zero, List.getElem?_cons_succ] at k10 k11 k12 k13 k14 k15 k16
  have HC4 := Lib.hid hc2
  clear hc hc2 k7 k8 k9 HC3
  have HH := Lib.hid hh
  clear hh
  go_wp2_with fail
  refine (ownEndeds_nil wt).mono ?_
  rintro e w' ⟨rfl, rfl⟩
  go_wp2_with fail
  refine (ownErrs_nil wt).mono ?_
  rintro e w' ⟨rfl, rfl⟩
  go_wp2_with fail
  refine (GB.out wt HC4.out).mono ?_
  rintro e wb ⟨rfl, hc⟩
  have hc2 : Ch (Si ++ Sw ++ Sc ++ St ++ Sb) w wb := (HC4.out.mono (by simp; exact fun x h => by rcases h with h | h | h | h <;> simp [h])).trans' (hc.mono (by simp; exact fun x h => .inr (.inr (.inr (.inr h)))))
  have hh := hc.heap HH.out N5.out
  have k12 := cell_at (i := 12) hh
  have k13 := cell_at (i := 13) hh
  have k14 := cell_at (i := 14) hh
  have k15 := cell_at (i := 15) hh
  simp only [List.getElem?_toArray, List.getElem?_cons_zero, List.getElem?_cons_succ] at k12 k13 k14 k15
  have HC5 := Lib.hid hc2
  clear hc hc2 hh k10 k11 k16 HC4
  go_wp2_with fail
  refine (ownData_nil wb).mono ?_
  rintro e w' ⟨rfl, rfl⟩
  go_wp2_with fail
  refine (ownForms_nil wb).mono ?_
  rintro e w' ⟨rfl, rfl⟩
  go_wp2_with fail
  refine (ownProcs_nil wb).mono ?_
  rintro e w' ⟨rfl, rfl⟩
  go_wp2_with fail
  refine (ownLanes_nil wb).mono ?_
  rintro e w' ⟨rfl, rfl⟩
  go_wp2_with fail
  go_ret
  exact ⟨rfl, HC5.out⟩
theorem infoIntsB : (Tryd.prog.info? 50).map (fun i => (i.zero, i.size, i.bytes)) = some (some (.slice none 0 0), 1, 24) := by kernel_rfl
theorem Ints_any (w : World) (bp : Nat) (wv cv tv bv : Value) (ai ao : Option Addr) (ni ci m cap : Nat) (lq : List Nat) (ls : List Value) (hb : IsBook w bp (.slice ai ni ci) wv cv tv bv) (hr : Row w 50 1 (.slice ai ni ci) lq ni ls) (hbq : bp ∉ lq) (hn : ni ≤ 1000000) :
    Calls Tryd.prog 18 #[.pointer (some ⟨bp, 0, none⟩), .slice ao m cap] w fun e w' => e = .returned (.tuple #[]) ∧ ∃ v' lq', IsBook w' bp v' wv cv tv bv ∧ Row w' 50 1 v' lq' (ni + 1) (ls ++ [.slice ao m cap]) ∧ Ch (bp :: lq) w w' ∧ (∀ q ∈ lq', q ∈ lq ∨ (w.heap.size ≤ q ∧ q < w'.heap.size)) := by
  obtain ⟨i1, hi1, hy0, hy1, hy2⟩ := info_parts infoIntsB
  unfold IsBook bookArr at hb
  have hlt := lt_of hb
  have kx := cell_at (i := 2) hb
  have fx := free_at (i := 2) hb
  simp only [List.getElem?_toArray, List.getElem?_cons_zero, List.getElem?_cons_succ] at kx
  have H := Lib.hid hb
  have HR := Lib.hid (hr.ch ((Ch.refl [] w).alloc (.cells #[.slice ao m cap] 50)) (by simp))
  have HN1 := Lib.hid (newL (w := w) (b := w.heap.size) rfl [.slice ao m cap] 50)
  have HQ := Lib.hid hbq
  clear hb hr hbq
  go_enter Tryd.func18, Tryd.ntmps18
  go_wp2_with (at_builtin; refine wpList_append_row _ rfl _ _ 33 rfl 50 i1 (.slice none 0 0) 1 24 Tryd.underlying33 hi1 hy0 hy1 hy2 rfl (by decide) rfl HR.out ⟨w.heap.size, 0, none⟩ 1 1 [.slice ao m cap] rfl rfl HN1.out (oneS _ _ _) (by unfold maxLen; omega) (by omega) ?_)
  intro v' w2 lq' hr4 hc4 hq4
  have hq5 : News lq lq' (w.alloc (.cells #[.slice ao m cap] 50)) w2 := by unfold News; simpa using hq4
  have C2 : Ch lq w w2 := ((Ch.refl lq w).alloc _).trans' hc4
  have hh := C2.heap H.out HQ.out
  have kx' := cell_at (i := 2) hh
  have fx' := free_at (i := 2) hh
  simp only [List.getElem?_toArray, List.getElem?_cons_zero, List.getElem?_cons_succ] at kx'
  obtain ⟨av, cv', rfl, _⟩ := hr4.rd
  have HC := Lib.hid C2
  have HH := Lib.hid hh
  have HR4 := Lib.hid hr4
  have HQ5 := Lib.hid hq5
  clear hr4 hc4 hq4 hq5 C2 hh kx fx HR HN1
  go_wp2_with fail
  go_end0
  have hs := HC.out.size
  have hnb : ∀ q ∈ lq', q ∈ lq ∨ (w.heap.size ≤ q ∧ q < w2.heap.size) := fun q hq => (HQ5.out.mem hq).imp id (fun h => by simp at h; omega)
  have hne : ∀ q ∈ lq', q ≠ bp := fun q hq e => by
    rcases hnb q hq with h | h
    · exact HQ.out (e ▸ h)
    · omega
  refine ⟨rfl, _, lq', ?_, HR4.out.keep (fun q hq o ho => (heap_set_ne (hne q hq)).trans ho), (HC.out.mono (fun x hx => by simp [hx])).setCell _ _ (.inl (by simp)), fun q hq => (hnb q hq).imp id (fun h => by simpa [World.setCell] using h)⟩
  have := heap_set (i := 2) HH.out (.slice av (ni + 1) cv')
  exact this
theorem infoBoolsB : (Tryd.prog.info? 73).map (fun i => (i.zero, i.size, i.bytes)) = some (some (.slice none 0 0), 1, 24) := by kernel_rfl
theorem Bools_any (w : World) (bp : Nat) (iv wv cv tv : Value) (ai ao : Option Addr) (ni ci m cap : Nat) (lq : List Nat) (ls : List Value) (hb : IsBook w bp iv wv cv tv (.slice ai ni ci)) (hr : Row w 73 1 (.slice ai ni ci) lq ni ls) (hbq : bp ∉ lq) (hn : ni ≤ 1000000) :
    Calls Tryd.prog 64 #[.pointer (some ⟨bp, 0, none⟩), .slice ao m cap] w fun e w' => e = .returned (.tuple #[]) ∧ ∃ v' lq', IsBook w' bp iv wv cv tv v' ∧ Row w' 73 1 v' lq' (ni + 1) (ls ++ [.slice ao m cap]) ∧ Ch (bp :: lq) w w' ∧ (∀ q ∈ lq', q ∈ lq ∨ (w.heap.size ≤ q ∧ q < w'.heap.size)) := by
  obtain ⟨i1, hi1, hy0, hy1, hy2⟩ := info_parts infoBoolsB
  unfold IsBook bookArr at hb
  have hlt := lt_of hb
  have kx := cell_at (i := 16) hb
  have fx := free_at (i := 16) hb
  simp only [List.getElem?_toArray, List.getElem?_cons_zero, List.getElem?_cons_succ] at kx
  have H := Lib.hid hb
  have HR := Lib.hid (hr.ch ((Ch.refl [] w).alloc (.cells #[.slice ao m cap] 73)) (by simp))
  have HN1 := Lib.hid (newL (w := w) (b := w.heap.size) rfl [.slice ao m cap] 73)
  have HQ := Lib.hid hbq
  clear hb hr hbq
  go_enter Tryd.func64, Tryd.ntmps64
  go_wp2_with (at_builtin; refine wpList_append_row _ rfl _ _ 47 rfl 73 i1 (.slice none 0 0) 1 24 Tryd.underlying47 hi1 hy0 hy1 hy2 rfl (by decide) rfl HR.out ⟨w.heap.size, 0, none⟩ 1 1 [.slice ao m cap] rfl rfl HN1.out (oneS _ _ _) (by unfold maxLen; omega) (by omega) ?_)
  intro v' w2 lq' hr4 hc4 hq4
  have hq5 : News lq lq' (w.alloc (.cells #[.slice ao m cap] 73)) w2 := by unfold News; simpa using hq4
  have C2 : Ch lq w w2 := ((Ch.refl lq w).alloc _).trans' hc4
  have hh := C2.heap H.out HQ.out
  have kx' := cell_at (i := 16) hh
  have fx' := free_at (i := 16) hh
  simp only [List.getElem?_toArray, List.getElem?_cons_zero, List.getElem?_cons_succ] at kx'
  obtain ⟨av, cv', rfl, _⟩ := hr4.rd
  have HC := Lib.hid C2
  have HH := Lib.hid hh
  have HR4 := Lib.hid hr4
  have HQ5 := Lib.hid hq5
  clear hr4 hc4 hq4 hq5 C2 hh kx fx HR HN1
  go_wp2_with fail
  go_end0
  have hs := HC.out.size
  have hnb : ∀ q ∈ lq', q ∈ lq ∨ (w.heap.size ≤ q ∧ q < w2.heap.size) := fun q hq => (HQ5.out.mem hq).imp id (fun h => by simp at h; omega)
  have hne : ∀ q ∈ lq', q ≠ bp := fun q hq e => by
    rcases hnb q hq with h | h
    · exact HQ.out (e ▸ h)
    · omega
  refine ⟨rfl, _, lq', ?_, HR4.out.keep (fun q hq o ho => (heap_set_ne (hne q hq)).trans ho), (HC.out.mono (fun x hx => by simp [hx])).setCell _ _ (.inl (by simp)), fun q hq => (hnb q hq).imp id (fun h => by simpa [World.setCell] using h)⟩
  have := heap_set (i := 16) HH.out (.slice av (ni + 1) cv')
  exact this
end Go.Proofs.YtlhhcocdhkbdnaaDoor.Own
