/-
  THE WALK of barrier.may.
-/
import Derived.Test.YtlhhcocdhkbdnaaDoorView
set_option linter.unusedVariables false
set_option linter.unusedSimpArgs false
set_option maxRecDepth 100000
namespace Go.Proofs.YtlhhcocdhkbdnaaDoor.Bp
open Go.RowKit Go.Proofs.YtlhhcocdhkbdnaaDoor.Wd Go.Proofs.YtlhhcocdhkbdnaaDoor.Hp Go.Proofs.YtlhhcocdhkbdnaaDoor.Gp Go.Proofs.YtlhhcocdhkbdnaaDoor.Sm Go.Proofs.YtlhhcocdhkbdnaaDoor.Gr
def isGrey (x : Cel) : Bool := x.k != 0 && x.c == 1
def greyN : List Cel → Nat
  | [] => 0
  | x :: l => (if isGrey x then 1 else 0) + greyN l
theorem greyN_append : ∀ a b : List Cel, greyN (a ++ b) = greyN a + greyN b
  | [], b => by simp [greyN]
  | x :: a, b => by simp only [List.cons_append, greyN, greyN_append a b]; omega
theorem greyN_le : ∀ l : List Cel, greyN l ≤ l.length
  | [] => Nat.le_refl _
  | x :: l => by have := greyN_le l; simp only [greyN, List.length_cons]; split <;> omega
/-- May c stand in the row of grey ones? -/
def greyC (h : List Cel) (c : Int) : Bool := decide (0 ≤ c) && (decide (c < h.length) && isGrey (h.getD c.toNat z))
def nodupB : List Int → Bool
  | [] => true
  | x :: l => !(l.contains x) && nodupB l
theorem nodupB_iff : ∀ l : List Int, nodupB l = true ↔ l.Nodup
  | [] => by simp [nodupB]
  | x :: l => by simp only [nodupB, Bool.and_eq_true, Bool.not_eq_true', List.nodup_cons, nodupB_iff l]; rw [← Bool.not_eq_true, List.contains_iff_mem]
def greyOk (h : List Cel) (l : List Int) : Bool := l.all (greyC h) && nodupB l
def numsOk (v : Vw) : Bool := !(decide (3 < v.ph)) && (!(decide (v.sw < 0)) && (!(decide ((v.cells.length : Int) < v.sw)) && (!(decide (v.laid < 0)) && !(decide ((v.globals.length : Int) < v.laid)))))
def cellOk (n : Nat) (x : Cel) : Bool := !(decide (3 < x.k)) && (!(decide (2 < x.c)) && (x.k == 0 || rightW n [x.a, x.b]))
def mayV (v : Vw) : Bool := numsOk v && (rightW v.cells.length v.globals && (v.cells.all (cellOk v.cells.length) && (greyOk v.cells v.grey && (decide (greyN v.cells = v.grey.length) && v.lanes.all (fun l => rightW v.cells.length l.roots)))))
set_option maxHeartbeats 1000000 in
/-- A lane's closure. -/
theorem may1_any (w : World) (a : VA) (v : Vw) (bt : Nat) (ar : Option Addr) (m cr : Nat) (ws : List Int) (sc en : Bool) (hb : Bnd w) (hm : m ≤ 1000000) (hrw : RdF w ar m (ints .u64 ws) []) (hu : ∀ x ∈ ws, Gp.u64 x) (ht : w.heap[bt]? = some (.cells (a.arr v) 65 (0, 0))) :
    Calls Tryd.prog 90 #[.agg #[.slice ar m cr, .bool sc, .bool en], .pointer (some ⟨bt, 0, none⟩)] w fun e w' => e = .returned (.bool (!rightW v.cells.length ws)) ∧ Ch [] w w' := by
  have C0 : Ch [] w (w.alloc (.cells #[.slice ar m cr, .bool sc, .bool en] 71)) := (Ch.refl _ _).alloc _
  have R := rightWords_any _ a.ac v.cells.length a.cc ar m cr ws hm (hrw.ch C0 (by simp)) hu (Bnd.ch hb C0 (by simp)) v.ph v.sw v.laid a.ag a.agl a.al v.grey.length v.globals.length v.lanes.length a.cg a.cgl a.cl
  have ht' := C0.heap ht (by simp)
  unfold VA.arr at ht'
  have k0 := cell_at (i := 0) ht'
  have k1 := cell_at (i := 1) ht'
  have k2 := cell_at (i := 2) ht'
  have k3 := cell_at (i := 3) ht'
  have k4 := cell_at (i := 4) ht'
  have k5 := cell_at (i := 5) ht'
  have k6 := cell_at (i := 6) ht'
  simp only [List.getElem?_toArray, List.getElem?_cons_zero, List.getElem?_cons_succ] at k0 k1 k2 k3 k4 k5 k6
  have HC := Lib.hid C0
  clear C0 hrw hu hb ht ht'
  generalize rightW v.cells.length ws = r at *
  go_enter Tryd.func90, Tryd.ntmps90
  go_wp2_with fail
  refine R.mono ?_
  rintro e w2 ⟨rfl, h2⟩
  have H2 := Lib.hid (HC.out.trans' h2)
  clear R h2 k0 k1 k2 k3 k4 k5 k6
  go_wp2_with fail
  go_ret
  exact ⟨rfl, H2.out⟩
set_option maxHeartbeats 1000000 in
theorem IndexFuncL_any (w : World) (a : VA) (v : Vw) (bt : Nat) (hb : Bnd w) (hv : VM w a v) (hr : VR v) (ht : w.heap[bt]? = some (.cells (a.arr v) 65 (0, 0))) :
    Calls Tryd.prog 106 #[.slice a.al v.lanes.length a.cl, .func (.func 90) #[] #[.pointer (some ⟨bt, 0, none⟩)]] w fun e w' => (∃ i : Int, e = .returned (.int .i64 i) ∧ decide (0 ≤ i) = v.lanes.any (fun l => !rightW v.cells.length l.roots)) ∧ Ch [] w w' := by
  have HV := Lib.hid hv
  have HR := Lib.hid hr
  have HB := Lib.hid hb
  have HT := Lib.hid ht
  have hn := hr.n4
  clear hv hr hb ht
  generalize hnl : v.lanes.length = n at *
  have HN := Lib.hid hnl
  clear hnl
  go_enter Tryd.func106, Tryd.ntmps106
  go_wp2_with fail
  go_loopw [8] (fun i wr => ∃ k : Nat, k ≤ n ∧ i = .int .i64 k ∧ (∀ j, j < k → rightW v.cells.length (v.lanes.getD j ln0).roots = true) ∧ Ch [] w wr) (fun i _ => n - (intOf i).toNat)
  case atStart => exact ⟨0, by omega, rfl, (fun j hj => absurd hj (by omega)), Ch.refl _ _⟩
  case round =>
    obtain ⟨k, hk, rfl, hag, hc⟩ := hrel
    have HG := Lib.hid hag
    have HC := Lib.hid hc
    clear hag
    by_cases hlt : k < n
    · have hkl : k < v.lanes.length := by rw [HN.out]; exact hlt
      obtain ⟨b, off, hal, c1, c2, c3⟩ := (HV.out.ch hc).lane k hkl
      have hmem := lane_mem hkl
      have hm : (v.lanes.getD k ln0).roots.length ≤ 1000000 := by have := rootsN_mem hmem; have := HR.out.n5; omega
      have M := may1_any wr a v bt (a.la k) _ (a.lc k) (v.lanes.getD k ln0).roots (v.lanes.getD k ln0).sc (v.lanes.getD k ln0).en (Bnd.ch HB.out hc (by simp)) hm ((HV.out.ch hc).roots k hkl) (HR.out.roots _ hmem) (hc.heap HT.out (by simp))
      have ltI : (k : Int) < n := by omega
      have HKL := Lib.hid hkl
      clear hc hmem hm hkl
      rw [hal]
      clear hal
      generalize hx : v.lanes.getD k ln0 = x at *
      have HX := Lib.hid hx
      clear hx
      generalize x.sc = xs at *
      generalize x.en = xe at *
      generalize hrr : rightW v.cells.length x.roots = rr at *
      have HRR := Lib.hid hrr
      clear hrr
      generalize x.roots.length = xl at *
      generalize a.la k = xa at *
      generalize a.lc k = xc at *
      cases rr
      · go_wp2_with (go_at_call 90; refine M.mono ?_; rintro e w2 ⟨rfl, h2⟩)
        go_ret
        refine ⟨⟨_, rfl, ?_⟩, HC.out.trans' h2⟩
        have : v.lanes.any (fun l => !rightW v.cells.length l.roots) = true := by
          rw [List.any_eq_true]
          exact ⟨v.lanes.getD k ln0, lane_mem HKL.out, by rw [HX.out, HRR.out]; rfl⟩
        rw [this]; simp
      · go_wp2_with (go_at_call 90; refine M.mono ?_; rintro e w2 ⟨rfl, h2⟩; have H2 := Lib.hid h2; clear h2)
        go_roundw
        case rel => exact ⟨k + 1, by omega, by go_num, (fun j hj => by
          rcases Nat.lt_or_ge j k with h | h
          · exact HG.out j h
          · obtain rfl : j = k := by omega
            rw [HX.out]; exact HRR.out), HC.out.trans' H2.out⟩
        case measure => simp [intOf]; omega
    · obtain rfl : k = n := by omega
      clear hc
      go_wp2_with fail
      go_ret
      refine ⟨⟨_, rfl, ?_⟩, HC.out⟩
      have : v.lanes.any (fun l => !rightW v.cells.length l.roots) = false := by
        rw [List.any_eq_false]
        intro x hx
        obtain ⟨j, hj, rfl⟩ := List.getElem_of_mem hx
        have := HG.out j (by rw [← HN.out]; exact hj)
        rw [show v.lanes.getD j ln0 = v.lanes[j] by simp [List.getD, hj]] at this
        simp [this]
      rw [this]; simp
theorem ContainsFuncL_any (w : World) (a : VA) (v : Vw) (bt : Nat) (hb : Bnd w) (hv : VM w a v) (hr : VR v) (ht : w.heap[bt]? = some (.cells (a.arr v) 65 (0, 0))) :
    Calls Tryd.prog 89 #[.slice a.al v.lanes.length a.cl, .func (.func 90) #[] #[.pointer (some ⟨bt, 0, none⟩)]] w fun e w' => e = .returned (.bool (!v.lanes.all (fun l => rightW v.cells.length l.roots))) ∧ Ch [] w w' := by
  have H := IndexFuncL_any w a v bt hb hv hr ht
  have e1 : (!v.lanes.all (fun l => rightW v.cells.length l.roots)) = v.lanes.any (fun l => !rightW v.cells.length l.roots) := by
    generalize v.lanes = L
    induction L with
    | nil => rfl
    | cons x l ih => simp only [List.all_cons, List.any_cons, ← ih]; cases rightW v.cells.length x.roots <;> simp
  rw [e1]
  clear hb hv hr ht e1
  generalize v.lanes.any (fun l => !rightW v.cells.length l.roots) = r at *
  generalize v.lanes.length = n at *
  go_enter Tryd.func89, Tryd.ntmps89
  go_wp2_with (go_at_call 106; refine H.mono ?_; rintro e w2 ⟨⟨i, rfl, hi⟩, h2⟩; have hI := Lib.hid hi; have H2 := Lib.hid h2; clear hi h2)
  go_ret
  exact ⟨by rw [← hI.out]; rfl, H2.out⟩
end Go.Proofs.YtlhhcocdhkbdnaaDoor.Bp
