/-
  THE WALKS of dappleref00.Book: lists are put into it; Own.
  WHOSE MEMORY IS WHOSE: blocks that a law has made, each with the number of its owner; a book among them.
-/
import Derived.Test.YtlhhcocdhkbdnaaDoorQOwnNil
import Derived.Test.YtlhhcocdhkbdnaaDoorQJOwnPre2
import Derived.Deep.OwnRows
import Derived.Test.YtlhhcocdhkbdnaaDoorQJApp
set_option linter.unusedVariables false
set_option linter.unusedSimpArgs false
set_option maxRecDepth 100000
namespace Go.Proofs.YtlhhcocdhkbdnaaDoor.Own
open Go.RowKit Go.Proofs.YtlhhcocdhkbdnaaDoor.Hp

/-- A book's block: its lists of ints, words, cells, waiters, bools; it has no others. -/
def bookArr (iv wv cv tv bv : Value) : Array Value := #[.slice none 0 0, .slice none 0 0, iv, .slice none 0 0, .slice none 0 0, wv, cv, .slice none 0 0, .slice none 0 0, tv, .slice none 0 0, .slice none 0 0, .slice none 0 0, .slice none 0 0, .slice none 0 0, .slice none 0 0, bv]
def IsBook (w : World) (bp : Nat) (iv wv cv tv bv : Value) : Prop := w.heap[bp]? = some (.cells (bookArr iv wv cv tv bv) 49 (0, 0))

set_option maxHeartbeats 2000000 in
theorem Own_gen (w : World) (bp : Nat) (ai aw ac at' ab : Option Addr) (ni nw nc nt nb ci cw cc ct cb : Nat) (hb : IsBook w bp (.slice ai ni ci) (.slice aw nw cw) (.slice ac nc cc) (.slice at' nt ct) (.slice ab nb cb)) (Si Sw Sc St Sb : List Nat)
    (h1 : bp ∉ Si) (h2 : bp ∉ Sw) (h3 : bp ∉ Sc) (h4 : bp ∉ St) (h5 : bp ∉ Sb)
    (HI : ∀ w', Ch [] w w' → Calls Tryd.prog 45 #[.slice ai ni ci] w' fun e w'' => (e = .returned (.bool true)) ∧ Ch Si w' w'')
    (HW : ∀ w', Ch Si w w' → Calls Tryd.prog 48 #[.slice aw nw cw] w' fun e w'' => (e = .returned (.bool true)) ∧ Ch Sw w' w'')
    (HC : ∀ w', Ch (Si ++ Sw) w w' → Calls Tryd.prog 49 #[.slice ac nc cc] w' fun e w'' => (e = .returned (.bool true)) ∧ Ch Sc w' w'')
    (HT : ∀ w', Ch (Si ++ Sw ++ Sc) w w' → Calls Tryd.prog 52 #[.slice at' nt ct] w' fun e w'' => (e = .returned (.bool true)) ∧ Ch St w' w'')
    (HB : ∀ w', Ch (Si ++ Sw ++ Sc ++ St) w w' → Calls Tryd.prog 55 #[.slice ab nb cb] w' fun e w'' => (e = .returned (.bool true)) ∧ Ch Sb w' w'') :
    Calls Tryd.prog 20 #[.pointer (some ⟨bp, 0, none⟩)] w fun e w' => (e = .returned (.bool true)) ∧ Ch (Si ++ Sw ++ Sc ++ St ++ Sb) w w' := by
  unfold IsBook bookArr at hb
  have hlt := lt_of hb
  have GI := Lib.hid HI
  have GW := Lib.hid HW
  have GC := Lib.hid HC
  have GT := Lib.hid HT
  have GB := Lib.hid HB
  have H := Lib.hid hb
  have N1 := Lib.hid h1
  have N2 := Lib.hid h2
  have N3 := Lib.hid h3
  have N4 := Lib.hid h4
  have N5 := Lib.hid h5
  have k0 := cell_at (i := 0) hb
  have k1 := cell_at (i := 1) hb
  have k2 := cell_at (i := 2) hb
  simp only [List.getElem?_toArray, List.getElem?_cons_zero, List.getElem?_cons_succ] at k0 k1 k2
  clear HI HW HC HT HB hb h1 h2 h3 h4 h5 hlt
  go_enter Tryd.func20, Tryd.ntmps20
  go_wp2_with fail
  refine (ownBytes_nil w).mono ?_
  rintro e w' ⟨rfl, rfl⟩
  go_wp2_with fail
  refine (ownTexts_nil w).mono ?_
  rintro e w' ⟨rfl, rfl⟩
  go_wp2_with fail
  refine (GI.out w (Ch.refl _ _)).mono ?_
  rintro e wi ⟨rfl, hc⟩
  have hh := hc.heap H.out N1.out
  have k3 := cell_at (i := 3) hh
  have k4 := cell_at (i := 4) hh
  have k5 := cell_at (i := 5) hh
  simp only [List.getElem?_toArray, List.getElem?_cons_zero, List.getElem?_cons_succ] at k3 k4 k5
  have HC1 := Lib.hid hc
  clear hh hc k0 k1 k2
  go_wp2_with fail
  refine (ownLongs_nil wi).mono ?_
  rintro e w' ⟨rfl, rfl⟩
  go_wp2_with fail
  refine (ownNumbers_nil wi).mono ?_
  rintro e w' ⟨rfl, rfl⟩
  go_wp2_with fail
  refine (GW.out wi HC1.out).mono ?_
  rintro e ww ⟨rfl, hc⟩
  have hc2 : Ch (Si ++ Sw) w ww := (HC1.out.mono (by simp; exact fun x h => .inl h)).trans' (hc.mono (by simp; exact fun x h => .inr h))
  have hh := hc2.heap H.out (by simp [N1.out, N2.out])
  have k6 := cell_at (i := 6) hh
  simp only [List.getElem?_toArray, List.getElem?_cons_zero, List.getElem?_cons_succ] at k6
  have HC2 := Lib.hid hc2
  clear hh hc hc2 k3 k4 k5 HC1
  go_wp2_with fail
  refine (GC.out ww HC2.out).mono ?_
  rintro e wc ⟨rfl, hc⟩
  have hc2 : Ch (Si ++ Sw ++ Sc) w wc := (HC2.out.mono (by simp; exact fun x h => by rcases h with h | h <;> simp [h])).trans' (hc.mono (by simp; exact fun x h => .inr (.inr h)))
  have hh := hc2.heap H.out (by simp [N1.out, N2.out, N3.out])
  have k7 := cell_at (i := 7) hh
  have k8 := cell_at (i := 8) hh
  have k9 := cell_at (i := 9) hh
  simp only [List.getElem?_toArray, List.getElem?_cons_zero, List.getElem?_cons_succ] at k7 k8 k9
  have HC3 := Lib.hid hc2
  clear hh hc hc2 k6 HC2
  go_wp2_with fail
  refine (ownInstrs_nil wc).mono ?_
  rintro e w' ⟨rfl, rfl⟩
  go_wp2_with fail
  refine (ownTokens_nil wc).mono ?_
  rintro e w' ⟨rfl, rfl⟩
  go_wp2_with fail
  refine (GT.out wc HC3.out).mono ?_
  rintro e wt ⟨rfl, hc⟩
  have hc2 : Ch (Si ++ Sw ++ Sc ++ St) w wt := (HC3.out.mono (by simp; exact fun x h => by rcases h with h | h | h <;> simp [h])).trans' (hc.mono (by simp; exact fun x h => .inr (.inr (.inr h))))
  have hh := hc2.heap H.out (by simp [N1.out, N2.out, N3.out, N4.out])
  have k10 := cell_at (i := 10) hh
  have k11 := cell_at (i := 11) hh
  have k12 := cell_at (i := 12) hh
  have k13 := cell_at (i := 13) hh
  have k14 := cell_at (i := 14) hh
  have k15 := cell_at (i := 15) hh
  have k16 := cell_at (i := 16) hh
  simp only [List.getElem?_toArray, List.getElem?_cons_zero, List.getElem?_cons_succ] at k10 k11 k12 k13 k14 k15 k16
  have HC4 := Lib.hid hc2
  clear hc hc2 k7 k8 k9 HC3
  have HH := Lib.hid hh
  clear hh
  go_wp2_with fail
  refine (ownEndeds_nil wt).mono ?_
  rintro e w' ⟨rfl, rfl⟩
  go_wp2_with fail
  refine (ownErrs_nil wt).mono ?_
  rintro e w' ⟨rfl, rfl⟩
  go_wp2_with fail
  refine (GB.out wt HC4.out).mono ?_
  rintro e wb ⟨rfl, hc⟩
  have hc2 : Ch (Si ++ Sw ++ Sc ++ St ++ Sb) w wb := (HC4.out.mono (by simp; exact fun x h => by rcases h with h | h | h | h <;> simp [h])).trans' (hc.mono (by simp; exact fun x h => .inr (.inr (.inr (.inr h)))))
  have hh := hc.heap HH.out N5.out
  have k12 := cell_at (i := 12) hh
  have k13 := cell_at (i := 13) hh
  have k14 := cell_at (i := 14) hh
  have k15 := cell_at (i := 15) hh
  simp only [List.getElem?_toArray, List.getElem?_cons_zero, List.getElem?_cons_succ] at k12 k13 k14 k15
  have HC5 := Lib.hid hc2
  clear hc hc2 hh k10 k11 k16 HC4
  go_wp2_with fail
  refine (ownData_nil wb).mono ?_
  rintro e w' ⟨rfl, rfl⟩
  go_wp2_with fail
  refine (ownForms_nil wb).mono ?_
  rintro e w' ⟨rfl, rfl⟩
  go_wp2_with fail
  refine (ownProcs_nil wb).mono ?_
  rintro e w' ⟨rfl, rfl⟩
  go_wp2_with fail
  refine (ownLanes_nil wb).mono ?_
  rintro e w' ⟨rfl, rfl⟩
  go_wp2_with fail
  go_ret
  exact ⟨rfl, HC5.out⟩
theorem infoIntsB : (Tryd.prog.info? 50).map (fun i => (i.zero, i.size, i.bytes)) = some (some (.slice none 0 0), 1, 24) := by kernel_rfl
theorem Ints_any (w : World) (bp : Nat) (wv cv tv bv : Value) (ai ao : Option Addr) (ni ci m cap : Nat) (lq : List Nat) (ls : List Value) (hb : IsBook w bp (.slice ai ni ci) wv cv tv bv) (hr : Row w 50 1 (.slice ai ni ci) lq ni ls) (hbq : bp ∉ lq) (hn : ni ≤ 1000000) :
    Calls Tryd.prog 18 #[.pointer (some ⟨bp, 0, none⟩), .slice ao m cap] w fun e w' => e = .returned (.tuple #[]) ∧ ∃ v' lq', IsBook w' bp v' wv cv tv bv ∧ Row w' 50 1 v' lq' (ni + 1) (ls ++ [.slice ao m cap]) ∧ Ch (bp :: lq) w w' ∧ (∀ q ∈ lq', q ∈ lq ∨ (w.heap.size ≤ q ∧ q < w'.heap.size)) := by
  obtain ⟨i1, hi1, hy0, hy1, hy2⟩ := info_parts infoIntsB
  unfold IsBook bookArr at hb
  have hlt := lt_of hb
  have kx := cell_at (i := 2) hb
  have fx := free_at (i := 2) hb
  simp only [List.getElem?_toArray, List.getElem?_cons_zero, List.getElem?_cons_succ] at kx
  have H := Lib.hid hb
  have HR := Lib.hid (hr.ch ((Ch.refl [] w).alloc (.cells #[.slice ao m cap] 50)) (by simp))
  have HN1 := Lib.hid (newL (w := w) (b := w.heap.size) rfl [.slice ao m cap] 50)
  have HQ := Lib.hid hbq
  clear hb hr hbq
  go_enter Tryd.func18, Tryd.ntmps18
  go_wp2_with (at_builtin; refine wpList_append_row _ rfl _ _ 33 rfl 50 i1 (.slice none 0 0) 1 24 Tryd.underlying33 hi1 hy0 hy1 hy2 rfl (by decide) rfl HR.out ⟨w.heap.size, 0, none⟩ 1 1 [.slice ao m cap] rfl rfl HN1.out (oneS _ _ _) (by unfold maxLen; omega) (by omega) ?_)
  intro v' w2 lq' hr4 hc4 hq4
  have hq5 : News lq lq' (w.alloc (.cells #[.slice ao m cap] 50)) w2 := by unfold News; simpa using hq4
  have C2 : Ch lq w w2 := ((Ch.refl lq w).alloc _).trans' hc4
  have hh := C2.heap H.out HQ.out
  have kx' := cell_at (i := 2) hh
  have fx' := free_at (i := 2) hh
  simp only [List.getElem?_toArray, List.getElem?_cons_zero, List.getElem?_cons_succ] at kx'
  obtain ⟨av, cv', rfl, _⟩ := hr4.rd
  have HC := Lib.hid C2
  have HH := Lib.hid hh
  have HR4 := Lib.hid hr4
  have HQ5 := Lib.hid hq5
  clear hr4 hc4 hq4 hq5 C2 hh kx fx HR HN1
  go_wp2_with fail
  go_end0
  have hs := HC.out.size
  have hnb : ∀ q ∈ lq', q ∈ lq ∨ (w.heap.size ≤ q ∧ q < w2.heap.size) := fun q hq => (HQ5.out.mem hq).imp id (fun h => by simp at h; omega)
  have hne : ∀ q ∈ lq', q ≠ bp := fun q hq e => by
    rcases hnb q hq with h | h
    · exact HQ.out (e ▸ h)
    · omega
  refine ⟨rfl, _, lq', ?_, HR4.out.keep (fun q hq o ho => (heap_set_ne (hne q hq)).trans ho), (HC.out.mono (fun x hx => by simp [hx])).setCell _ _ (.inl (by simp)), fun q hq => (hnb q hq).imp id (fun h => by simpa [World.setCell] using h)⟩
  have := heap_set (i := 2) HH.out (.slice av (ni + 1) cv')
  exact this
theorem infoBoolsB : (Tryd.prog.info? 73).map (fun i => (i.zero, i.size, i.bytes)) = some (some (.slice none 0 0), 1, 24) := by kernel_rfl
theorem Bools_any (w : World) (bp : Nat) (iv wv cv tv : Value) (ai ao : Option Addr) (ni ci m cap : Nat) (lq : List Nat) (ls : List Value) (hb : IsBook w bp iv wv cv tv (.slice ai ni ci)) (hr : Row w 73 1 (.slice ai ni ci) lq ni ls) (hbq : bp ∉ lq) (hn : ni ≤ 1000000) :
    Calls Tryd.prog 64 #[.pointer (some ⟨bp, 0, none⟩), .slice ao m cap] w fun e w' => e = .returned (.tuple #[]) ∧ ∃ v' lq', IsBook w' bp iv wv cv tv v' ∧ Row w' 73 1 v' lq' (ni + 1) (ls ++ [.slice ao m cap]) ∧ Ch (bp :: lq) w w' ∧ (∀ q ∈ lq', q ∈ lq ∨ (w.heap.size ≤ q ∧ q < w'.heap.size)) := by
  obtain ⟨i1, hi1, hy0, hy1, hy2⟩ := info_parts infoBoolsB
  unfold IsBook bookArr at hb
  have hlt := lt_of hb
  have kx := cell_at (i := 16) hb
  have fx := free_at (i := 16) hb
  simp only [List.getElem?_toArray, List.getElem?_cons_zero, List.getElem?_cons_succ] at kx
  have H := Lib.hid hb
  have HR := Lib.hid (hr.ch ((Ch.refl [] w).alloc (.cells #[.slice ao m cap] 73)) (by simp))
  have HN1 := Lib.hid (newL (w := w) (b := w.heap.size) rfl [.slice ao m cap] 73)
  have HQ := Lib.hid hbq
  clear hb hr hbq
  go_enter Tryd.func64, Tryd.ntmps64
  go_wp2_with (at_builtin; refine wpList_append_row _ rfl _ _ 47 rfl 73 i1 (.slice none 0 0) 1 24 Tryd.underlying47 hi1 hy0 hy1 hy2 rfl (by decide) rfl HR.out ⟨w.heap.size, 0, none⟩ 1 1 [.slice ao m cap] rfl rfl HN1.out (oneS _ _ _) (by unfold maxLen; omega) (by omega) ?_)
  intro v' w2 lq' hr4 hc4 hq4
  have hq5 : News lq lq' (w.alloc (.cells #[.slice ao m cap] 73)) w2 := by unfold News; simpa using hq4
  have C2 : Ch lq w w2 := ((Ch.refl lq w).alloc _).trans' hc4
  have hh := C2.heap H.out HQ.out
  have kx' := cell_at (i := 16) hh
  have fx' := free_at (i := 16) hh
  simp only [List.getElem?_toArray, List.getElem?_cons_zero, List.getElem?_cons_succ] at kx'
  obtain ⟨av, cv', rfl, _⟩ := hr4.rd
  have HC := Lib.hid C2
  have HH := Lib.hid hh
  have HR4 := Lib.hid hr4
  have HQ5 := Lib.hid hq5
  clear hr4 hc4 hq4 hq5 C2 hh kx fx HR HN1
  go_wp2_with fail
  go_end0
  have hs := HC.out.size
  have hnb : ∀ q ∈ lq', q ∈ lq ∨ (w.heap.size ≤ q ∧ q < w2.heap.size) := fun q hq => (HQ5.out.mem hq).imp id (fun h => by simp at h; omega)
  have hne : ∀ q ∈ lq', q ≠ bp := fun q hq e => by
    rcases hnb q hq with h | h
    · exact HQ.out (e ▸ h)
    · omega
  refine ⟨rfl, _, lq', ?_, HR4.out.keep (fun q hq o ho => (heap_set_ne (hne q hq)).trans ho), (HC.out.mono (fun x hx => by simp [hx])).setCell _ _ (.inl (by simp)), fun q hq => (hnb q hq).imp id (fun h => by simpa [World.setCell] using h)⟩
  have := heap_set (i := 16) HH.out (.slice av (ni + 1) cv')
  exact this
end Go.Proofs.YtlhhcocdhkbdnaaDoor.Own

set_option linter.unusedVariables false
set_option linter.unusedSimpArgs false
set_option maxRecDepth 100000
namespace Go.Proofs.YtlhhcocdhkbdnaaDoor.Own
open Go.RowKit Go.Proofs.YtlhhcocdhkbdnaaDoor.Hp

/-- Each block that somebody has was made since w0. -/
structure G (w0 w : World) (O : Nat → Nat) : Prop where
  ch : Ch [] w0 w
  ow : ∀ x, O x ≠ 0 → w0.heap.size ≤ x ∧ x < w.heap.size
def Ext (O O' : Nat → Nat) : Prop := ∀ x, O x ≠ 0 → O' x = O x
theorem Ext.refl (O : Nat → Nat) : Ext O O := fun _ _ => rfl
theorem Ext.trans {O O' O'' : Nat → Nat} (h : Ext O O') (k : Ext O' O'') : Ext O O'' := fun x hx => by rw [← h x hx]; exact k x (by rw [h x hx]; exact hx)
/-- Blocks that are new get an owner. -/
def put (O : Nat → Nat) (id : Nat) (l : List Nat) : Nat → Nat := fun x => if x ∈ l then id else O x
theorem put_ext {w0 w w' : World} {O : Nat → Nat} (h : G w0 w O) (id : Nat) (l : List Nat) (hl : ∀ x ∈ l, O x = id ∨ w.heap.size ≤ x) : Ext O (put O id l) := by
  intro x hx
  unfold put
  by_cases hm : x ∈ l
  · rw [if_pos hm]
    rcases hl x hm with h1 | h1
    · exact h1.symm
    · have := h.ow x hx; omega
  · rw [if_neg hm]
theorem put_at (O : Nat → Nat) (id : Nat) (l : List Nat) : ∀ x ∈ l, put O id l x = id := fun x hx => by unfold put; rw [if_pos hx]
theorem G.step {w0 w w' : World} {O : Nat → Nat} {T : List Nat} (h : G w0 w O) (hc : Ch T w w') (hT : ∀ x ∈ T, O x ≠ 0 ∨ w.heap.size ≤ x) : G w0 w' O :=
  ⟨h.ch.trans hc (fun x hx => .inr (by
    rcases hT x hx with h1 | h1
    · exact (h.ow x h1).1
    · exact Nat.le_trans h.ch.size h1)), fun x hx => ⟨(h.ow x hx).1, Nat.lt_of_lt_of_le (h.ow x hx).2 hc.size⟩⟩
theorem G.put {w0 w : World} {O : Nat → Nat} (h : G w0 w O) (id : Nat) (l : List Nat) (hl : ∀ x ∈ l, O x = id ∨ (w0.heap.size ≤ x ∧ x < w.heap.size)) : G w0 w (put O id l) :=
  ⟨h.ch, fun x hx => by
    unfold Own.put at hx
    by_cases hm : x ∈ l
    · rw [if_pos hm] at hx
      rcases hl x hm with h1 | h1
      · exact h.ow x (by rw [h1]; exact hx)
      · exact h1
    · rw [if_neg hm] at hx; exact h.ow x hx⟩
/-- Blocks of one owner are not another one's. -/
theorem apart {O : Nat → Nat} {T : List Nat} {x id : Nat} (hx : O x = id) (hT : ∀ y ∈ T, O y ≠ id) : x ∉ T := fun hm => hT x hm hx

/-- One kind of lists in a book: those that lie in it, in the blocks lq; what they hold lies in blocks of owner d. -/
structure Kd (w : World) (O : Nat → Nat) (e st : TypeId) (sz : Nat) (q d : Nat) (v : Value) (n : Nat) : Prop where
  all : ∃ (lq : List Nat) (vs : List SV), vs.length = n ∧ Row w st 1 v lq n (vs.map SV.val) ∧ (∀ x ∈ lq, O x = q) ∧ (∀ x ∈ vs, Room w e sz x ∧ x.n ≤ 1000000) ∧ (∀ x ∈ vs, ∀ y ∈ x.bk, O y = d) ∧
    (∀ i j, i < n → j < n → i ≠ j → ∀ y ∈ (vs.getD i SV.nil).bk, y ∉ (vs.getD j SV.nil).bk)
theorem Kd.nil (w : World) (O : Nat → Nat) (e st : TypeId) (sz q d : Nat) : Kd w O e st sz q d (.slice none 0 0) 0 :=
  ⟨[], [], rfl, Row.nil _ _ _ _, (fun x hx => by cases hx), (fun x hx => by cases hx), (fun x hx => by cases hx), (fun i j hi => absurd hi (by omega))⟩
theorem Kd.keep {w w' : World} {O O' : Nat → Nat} {e st : TypeId} {sz q d n : Nat} {v : Value} {T : List Nat} (h : Kd w O e st sz q d v n) (hc : Ch T w w') (hx : Ext O O') (hq : q ≠ 0) (hd : d ≠ 0) (hT : ∀ x ∈ T, O x ≠ q ∧ O x ≠ d) : Kd w' O' e st sz q d v n := by
  obtain ⟨lq, vs, h1, h2, h3, h4, h5, h6⟩ := h.all
  refine ⟨lq, vs, h1, h2.ch hc (fun x hm => apart (h3 x hm) (fun y hy => (hT y hy).1)), fun x hm => ?_, fun x hm => ⟨(h4 x hm).1.keep (fun y hy o ho => hc.heap ho (apart (h5 x hm y hy) (fun z hz => (hT z hz).2))), (h4 x hm).2⟩, fun x hm y hy => ?_, h6⟩
  · rw [hx x (by rw [h3 x hm]; exact hq)]; exact h3 x hm
  · rw [hx y (by rw [h5 x hm y hy]; exact hd)]; exact h5 x hm y hy
theorem getD_mem {vs : List SV} {j : Nat} (h : j < vs.length) : vs.getD j SV.nil ∈ vs := by
  rw [show vs.getD j SV.nil = vs[j] by simp [List.getD, h]]; exact List.getElem_mem h
/-- What an own.. function asks. -/
theorem Kd.lls {w : World} {O : Nat → Nat} {e st : TypeId} {sz q d n : Nat} {ao : Option Addr} {cap : Nat} (h : Kd w O e st sz q d (.slice ao n cap) n) (hqd : q ≠ d) : ∃ V S, LLs w e sz ao n V S ∧ ∀ x ∈ S, O x = d := by
  obtain ⟨lq, vs, h1, h2, h3, h4, h5, h6⟩ := h.all
  refine ⟨fun j => vs.getD j SV.nil, vs.flatMap SV.bk, ⟨?_, fun j hj => h4 _ (getD_mem (by omega)), h6, fun j hj x hx => List.mem_flatMap.2 ⟨_, getD_mem (by omega), hx⟩⟩, fun x hx => ?_⟩
  · obtain ⟨hl, ao', cap', hv, g1, g2, g3, g4⟩ := h2
    simp only [Value.slice.injEq, true_and] at hv
    obtain ⟨rfl, rfl⟩ := hv
    rcases Nat.eq_zero_or_pos n with h0 | h0
    · exact .inl h0
    · right
      obtain ⟨b, off, arr, k1, k2, k3, k4, k5⟩ := g4.resolve_left (by omega)
      refine ⟨b, off, k2, fun hm => ?_, fun j hj => ?_⟩
      · obtain ⟨x, hx, hb⟩ := List.mem_flatMap.1 hm
        have e1 := h3 b k1
        have e2 := h5 x hx b hb
        omega
      · rw [cell_at k3, k5 j (by omega)]
        simp [List.getD_eq_getElem?_getD, show j < vs.length by omega]
  · obtain ⟨y, hy, hb⟩ := List.mem_flatMap.1 hx
    exact h5 y hy x hb
/-- A row of the walk's own, as a slice that may be put into a book. -/
theorem Row.sv {w : World} {e : TypeId} {sz n : Nat} {qs : List Nat} {v : Value} {xs : List Value} (h : Row w e sz v qs n xs) : ∃ ao cap, v = .slice ao n cap ∧ Room w e sz ⟨ao, n, cap⟩ ∧ ∀ y ∈ (SV.mk ao n cap).bk, y ∈ qs := by
  obtain ⟨hl, ao, cap, rfl, g1, g2, g3, g4⟩ := h
  refine ⟨ao, cap, rfl, ⟨g1, g2, g3, g4.imp id fun ⟨q, off, arr, k1, k2, k3, k4, k5⟩ => ⟨q, off, arr, k2, k3, k4⟩⟩, fun y hy => ?_⟩
  unfold SV.bk at hy
  by_cases hc : cap = 0
  · rw [if_pos hc] at hy; cases hy
  · obtain ⟨q, off, arr, k1, k2, k3, k4, k5⟩ := g4.resolve_left hc
    rw [if_neg hc, k2] at hy
    simp at hy
    subst hy; exact k1
/-- One more list of that kind. -/
theorem Kd.add {w w' : World} {O : Nat → Nat} {e st : TypeId} {sz q d n : Nat} {v' : Value} {lq' : List Nat} {x : SV} {T : List Nat} {vs : List SV} (h1 : vs.length = n) (hc : Ch T w w') (hT : ∀ y ∈ T, O y ≠ d)
    (h4 : ∀ x ∈ vs, Room w e sz x ∧ x.n ≤ 1000000) (h5 : ∀ x ∈ vs, ∀ y ∈ x.bk, O y = d) (h6 : ∀ i j, i < n → j < n → i ≠ j → ∀ y ∈ (vs.getD i SV.nil).bk, y ∉ (vs.getD j SV.nil).bk)
    (hr : Row w' st 1 v' lq' (n + 1) (vs.map SV.val ++ [x.val])) (hlq : ∀ y ∈ lq', O y = q) (hx : Room w' e sz x ∧ x.n ≤ 1000000) (hxd : ∀ y ∈ x.bk, O y = d) (hxn : ∀ z ∈ vs, ∀ y ∈ x.bk, y ∉ z.bk) : Kd w' O e st sz q d v' (n + 1) := by
  refine ⟨lq', vs ++ [x], by simp [h1], by simpa using hr, hlq, fun z hz => ?_, fun z hz => ?_, fun i j hi hj hne y hy => ?_⟩
  · rcases List.mem_append.1 hz with hm | hm
    · exact ⟨(h4 z hm).1.keep (fun y hy o ho => hc.heap ho (apart (h5 z hm y hy) hT)), (h4 z hm).2⟩
    · simp at hm; subst hm; exact hx
  · rcases List.mem_append.1 hz with hm | hm
    · exact h5 z hm
    · simp at hm; subst hm; exact hxd
  · have gA : ∀ k, k < n → (vs ++ [x]).getD k SV.nil = vs.getD k SV.nil := fun k hk => by rw [List.getD_eq_getElem?_getD, List.getElem?_append_left (by omega), ← List.getD_eq_getElem?_getD]
    have gB : (vs ++ [x]).getD n SV.nil = x := by simp [List.getD_eq_getElem?_getD, List.getElem?_append, h1]
    by_cases hi' : i = n
    · subst hi'
      rw [gB] at hy
      rw [gA j (by omega)]
      exact hxn _ (getD_mem (by omega)) y hy
    · rw [gA i (by omega)] at hy
      by_cases hj' : j = n
      · subst hj'
        rw [gB]
        exact fun hm => hxn _ (getD_mem (by omega)) y hm hy
      · rw [gA j (by omega)]
        exact h6 i j (by omega) (by omega) hne y hy
end Go.Proofs.YtlhhcocdhkbdnaaDoor.Own
