/-
  CHAPTER 13: a view as plain data, and how it lies in memory; rightWords.
  THE WALK of barrier.may.
-/
import Derived.Test.YtlhhcocdhkbdnaaDoorQBar1
set_option linter.unusedVariables false
set_option linter.unusedSimpArgs false
set_option maxRecDepth 100000
namespace Go.Proofs.YtlhhcocdhkbdnaaDoor.Bp
open Go.RowKit Go.Proofs.YtlhhcocdhkbdnaaDoor.Wd Go.Proofs.YtlhhcocdhkbdnaaDoor.Hp Go.Proofs.YtlhhcocdhkbdnaaDoor.Gp Go.Proofs.YtlhhcocdhkbdnaaDoor.Sm Go.Proofs.YtlhhcocdhkbdnaaDoor.Gr
structure Ln where
  roots : List Int
  sc : Bool
  en : Bool
def ln0 : Ln := ⟨[], false, false⟩
structure Vw where
  cells : List Cel
  ph : Int
  sw : Int
  grey : List Int
  globals : List Int
  laid : Int
  lanes : List Ln
/-- Where its lists lie. -/
structure VA where
  ac : Option Addr
  cc : Nat
  ag : Option Addr
  cg : Nat
  agl : Option Addr
  cgl : Nat
  al : Option Addr
  cl : Nat
  la : Nat → Option Addr
  lc : Nat → Nat
def VA.arr (a : VA) (v : Vw) : Array Value := #[.slice a.ac v.cells.length a.cc, .int .u8 v.ph, .int .i64 v.sw, .slice a.ag v.grey.length a.cg, .slice a.agl v.globals.length a.cgl, .int .i64 v.laid, .slice a.al v.lanes.length a.cl]
def laneV (a : VA) (v : Vw) (j : Nat) : List Value := [.slice (a.la j) (v.lanes.getD j ln0).roots.length (a.lc j), .bool (v.lanes.getD j ln0).sc, .bool (v.lanes.getD j ln0).en]
def lanesV (a : VA) (v : Vw) : List Value := (List.range v.lanes.length).flatMap (laneV a v)
structure VM (w : World) (a : VA) (v : Vw) : Prop where
  cells : RdF w a.ac (v.cells.length * 4) (flat v.cells) []
  grey : RdF w a.ag v.grey.length (ints .i64 v.grey) []
  globals : RdF w a.agl v.globals.length (ints .u64 v.globals) []
  lanes : RdF w a.al (v.lanes.length * 3) (lanesV a v) []
  roots : ∀ j, j < v.lanes.length → RdF w (a.la j) (v.lanes.getD j ln0).roots.length (ints .u64 (v.lanes.getD j ln0).roots) []
  capg : v.globals.length ≤ a.cgl
theorem VM.ch {w w' : World} {a : VA} {v : Vw} (h : VM w a v) (hc : Ch [] w w') : VM w' a v :=
  ⟨h.cells.ch hc (by simp), h.grey.ch hc (by simp), h.globals.ch hc (by simp), h.lanes.ch hc (by simp), fun j hj => (h.roots j hj).ch hc (by simp), h.capg⟩
def rootsN (l : List Ln) : Nat := (l.map (fun x => x.roots.length)).sum
/-- What its numbers may be. -/
structure VR (v : Vw) : Prop where
  cells : ∀ x ∈ v.cells, InR x
  ph : 0 ≤ v.ph ∧ v.ph < 256
  sw : -9223372036854775808 ≤ v.sw ∧ v.sw ≤ 9223372036854775807
  laid : -9223372036854775808 ≤ v.laid ∧ v.laid ≤ 9223372036854775807
  grey : ∀ x ∈ v.grey, -9223372036854775808 ≤ x ∧ x ≤ 9223372036854775807
  globals : ∀ x ∈ v.globals, Gp.u64 x
  roots : ∀ l ∈ v.lanes, ∀ x ∈ l.roots, Gp.u64 x
  n1 : v.cells.length ≤ 100000
  n2 : v.grey.length ≤ 100000
  n3 : v.globals.length ≤ 100000
  n4 : v.lanes.length ≤ 100000
  n5 : rootsN v.lanes ≤ 100000
theorem lane_mem {l : List Ln} {j : Nat} (h : j < l.length) : l.getD j ln0 ∈ l := by
  rw [show l.getD j ln0 = l[j] by simp [List.getD, h]]; exact List.getElem_mem h
theorem rootsN_mem : ∀ {l : List Ln} {x : Ln}, x ∈ l → x.roots.length ≤ rootsN l
  | y :: l, x, h => by
    simp only [rootsN, List.map_cons, List.sum_cons]
    rcases List.mem_cons.1 h with rfl | h
    · omega
    · have := rootsN_mem h; unfold rootsN at this; omega
theorem sum_three : ∀ n : Nat, (List.map (fun _ => 3) (List.range n)).sum = n * 3
  | 0 => rfl
  | n + 1 => by rw [List.range_succ, List.map_append, List.sum_append, sum_three n]; simp; omega
theorem lanesV_len (a : VA) (v : Vw) : (lanesV a v).length = v.lanes.length * 3 := by
  unfold lanesV
  rw [List.length_flatMap]
  simp only [laneV, List.length_cons, List.length_nil]
  exact sum_three _
theorem range_flat_get (f : Nat → List Value) (hf : ∀ k, (f k).length = 3) (j t : Nat) (ht : t < 3) : ∀ n, j < n → ((List.range n).flatMap f)[j * 3 + t]? = (f j)[t]?
  | 0, h => absurd h (by omega)
  | n + 1, h => by
    rw [List.range_succ, List.flatMap_append]
    have hl : ((List.range n).flatMap f).length = n * 3 := by rw [List.length_flatMap]; simp only [hf]; exact sum_three n
    by_cases e : j = n
    · subst e; rw [List.getElem?_append_right (by omega), hl]; simp
    · rw [List.getElem?_append_left (by omega)]; exact range_flat_get f hf j t ht n (by omega)
theorem lanesV_get (a : VA) (v : Vw) (j t : Nat) (hj : j < v.lanes.length) (ht : t < 3) : (lanesV a v)[j * 3 + t]? = (laneV a v j)[t]? := range_flat_get _ (fun _ => rfl) j t ht _ hj
/-- The j-th lane's cells. -/
theorem VM.lane {w : World} {a : VA} {v : Vw} (h : VM w a v) (j : Nat) (hj : j < v.lanes.length) : ∃ b off, a.al = some ⟨b, off, none⟩ ∧ w.cell? ⟨b, off + j * 3, none⟩ = some (.slice (a.la j) (v.lanes.getD j ln0).roots.length (a.lc j)) ∧ w.cell? ⟨b, off + j * 3 + 1, none⟩ = some (.bool (v.lanes.getD j ln0).sc) ∧ w.cell? ⟨b, off + j * 3 + 2, none⟩ = some (.bool (v.lanes.getD j ln0).en) := by
  obtain ⟨b, off, ha, _, hc⟩ := h.lanes.2.resolve_left (by omega)
  exact ⟨b, off, ha, (hc (j * 3) (by omega)).trans (lanesV_get a v j 0 hj (by omega)), (by have := (hc (j * 3 + 1) (by omega)).trans (lanesV_get a v j 1 hj (by omega)); rw [← Nat.add_assoc] at this; exact this), (by have := (hc (j * 3 + 2) (by omega)).trans (lanesV_get a v j 2 hj (by omega)); rw [← Nat.add_assoc] at this; exact this)⟩

/-- What lies behind the first places of a list. -/
theorem slice_from {P : Program} (t e : TypeId) (ht : P.underlying t = some (.slice (P.elem t))) (he : P.elem t = e) (i : TypeInfo) (hi : P.info? e = some i) (hs : i.size = 1) (ao : Option Addr) (n cap l : Nat) (hl : l ≤ n) (hc : n ≤ cap) :
    ∃ so sc, (∀ w : World, (Instr.sliceAt t (.slice ao n cap) (some (.int .i64 l)) none none).run P w = .ok (.slice so (n - l) sc) w) ∧ (∀ w : World, (Instr.slice t (.slice ao n cap) (some (.int .i64 l)) none none).run P w = .ok (.slice so (n - l) sc) w) ∧ ∀ (w : World) (k : IntKind) (xs : List Int), RdF w ao n (ints k xs) [] → RdF w so (n - l) (ints k (xs.drop l)) [] := by
  have hrun : ∀ w : World, (Instr.slice t (.slice ao n cap) (some (.int .i64 l)) none none).run P w = .ok (.slice (if cap = l then ao else ao.map (·.add (l * 1))) (n - l) (cap - l)) w := fun w => by
    rw [run_slice_any w t ao n cap ht]
    simp [Instr.sliceBounds, run_sliceBound, Result.andThen, sizeOf, typeInfo, he, hi, hs, sliced, hl, hc]
  refine ⟨_, _, fun w => by rw [run_sliceAt_slice w t _ _ _ _ ht]; exact hrun w, hrun, fun w k xs h => ?_⟩
  have hxl : xs.length = n := by simpa [ints] using h.1
  refine ⟨by simp [ints, hxl], ?_⟩
  by_cases h0 : n - l = 0
  · exact .inl h0
  · right
    obtain ⟨b, off, rfl, hb, hj⟩ := h.2.resolve_left (by omega)
    refine ⟨b, off + l, by rw [if_neg (by omega)]; simp [Addr.add], hb, fun j hlt => ?_⟩
    rw [Nat.add_assoc, hj (l + j) (by omega)]
    simp [ints]
/-- The first places of a list. -/
theorem slice_to {P : Program} (t e : TypeId) (ht : P.underlying t = some (.slice (P.elem t))) (he : P.elem t = e) (i : TypeInfo) (hi : P.info? e = some i) (hs : i.size = 1) (ao : Option Addr) (n cap l : Nat) (hl : l ≤ n) (hc : n ≤ cap) :
    ∃ so sc, (∀ w : World, (Instr.sliceAt t (.slice ao n cap) none (some (.int .i64 l)) none).run P w = .ok (.slice so l sc) w) ∧ (∀ w : World, (Instr.slice t (.slice ao n cap) none (some (.int .i64 l)) none).run P w = .ok (.slice so l sc) w) ∧ ∀ (w : World) (k : IntKind) (xs : List Int), RdF w ao n (ints k xs) [] → RdF w so l (ints k (xs.take l)) [] := by
  have hrun : ∀ w : World, (Instr.slice t (.slice ao n cap) none (some (.int .i64 l)) none).run P w = .ok (.slice (if cap = 0 then ao else ao.map (·.add (0 * 1))) (l - 0) (cap - 0)) w := fun w => by
    rw [run_slice_any w t ao n cap ht]
    have h1 : (l : Int) ≤ cap := by omega
    simp [Instr.sliceBounds, run_sliceBound, Result.andThen, sizeOf, typeInfo, he, hi, hs, sliced, h1]
  refine ⟨_, _, fun w => by rw [run_sliceAt_slice w t _ _ _ _ ht]; exact hrun w, hrun, fun w k xs h => ?_⟩
  have hxl : xs.length = n := by simpa [ints] using h.1
  refine ⟨by simp [ints, hxl]; omega, ?_⟩
  by_cases h0 : l = 0
  · exact .inl h0
  · right
    obtain ⟨b, off, rfl, hb, hj⟩ := h.2.resolve_left (by omega)
    refine ⟨b, off, by rw [if_neg (by omega)]; simp [Addr.add], hb, fun j hlt => ?_⟩
    rw [hj j (by omega)]
    simp [ints, hlt]
def rightW (n : Nat) (ws : List Int) : Bool := ws.all (fun w => isWord w n)
theorem rightWords1_any (w : World) (x : Int) (bt : Nat) (ao : Option Addr) (n cap : Nat) (hx : Gp.u64 x) (ht : w.cell? ⟨bt, 0, none⟩ = some (.slice ao n cap)) (hb : Bnd w) :
    Calls Tryd.prog 105 #[.int .u64 x, .pointer (some ⟨bt, 0, none⟩)] w fun e w' => e = .returned (.bool (!isWord x n)) ∧ w' = w := by
  have H1 := Wd.Of_any w x hx.1 hx.2 hb
  have H2 := Wd.Cell_any w x hx.1 hx.2 hb
  have hr := cellN_range x
  unfold isWord
  clear hx hb
  generalize ofOk x = o at *
  generalize isRef x = r at *
  generalize ofT x = t at *
  generalize ofN x = m at *
  have hc : ∃ c : Nat, cellN x = c := ⟨(cellN x).toNat, by omega⟩
  generalize cellN x = cv at *
  obtain ⟨c, rfl⟩ := hc
  by_cases hlt : c < n
  · have hd : decide ((c : Int) < n) = true := by simp; omega
    have hlI : (c : Int) < n := by omega
    rw [hd]
    clear hlt hd
    cases o <;> cases r
    all_goals
      go_enter Tryd.func105, Tryd.ntmps105
      go_wp2_with fail
      refine H1.mono ?_
      rintro e w' ⟨rfl, rfl⟩
      go_wp2_with fail
      refine H2.mono ?_
      rintro e w' ⟨rfl, rfl⟩
      go_wp2_with fail
      go_ret
      exact ⟨by first | rfl | (simp; done) | (simp; omega), rfl⟩
  · have hd : decide ((c : Int) < n) = false := by simp; omega
    have hlI : ¬ (c : Int) < n := by omega
    rw [hd]
    clear hlt hd
    cases o <;> cases r
    all_goals
      go_enter Tryd.func105, Tryd.ntmps105
      go_wp2_with fail
      refine H1.mono ?_
      rintro e w' ⟨rfl, rfl⟩
      go_wp2_with fail
      refine H2.mono ?_
      rintro e w' ⟨rfl, rfl⟩
      go_wp2_with fail
      go_ret
      exact ⟨by first | rfl | (simp; done) | (simp; omega), rfl⟩
set_option maxHeartbeats 400000 in
theorem IndexFuncW_any (w : World) (ao : Option Addr) (n cn : Nat) (ws : List Int) (bt : Nat) (aoh : Option Addr) (m caph : Nat) (hn : n ≤ 1000000) (hr : RdF w ao n (ints .u64 ws) []) (hu : ∀ v ∈ ws, Gp.u64 v) (hb : Bnd w) (ht : w.cell? ⟨bt, 0, none⟩ = some (.slice aoh m caph)) :
    Calls Tryd.prog 110 #[.slice ao n cn, .func (.func 105) #[] #[.pointer (some ⟨bt, 0, none⟩)]] w fun e w' => (∃ i : Int, e = .returned (.int .i64 i) ∧ decide (0 ≤ i) = ws.any (fun v => !isWord v m)) ∧ w' = w := by
  have hl : ws.length = n := by simpa [ints] using hr.1
  have HR := Lib.hid hr
  have HB := Lib.hid hb
  have HU := Lib.hid hu
  have HL := Lib.hid hl
  have HT := Lib.hid ht
  clear hr hb hu hl ht
  go_enter Tryd.func110, Tryd.ntmps110
  go_wp2_with fail
  go_loopw [8] (fun i wr => ∃ k : Nat, k ≤ n ∧ i = .int .i64 k ∧ (∀ j, j < k → isWord (ws.getD j 0) m = true) ∧ wr = w) (fun i _ => n - (intOf i).toNat)
  case atStart => exact ⟨0, by omega, rfl, (fun j hj => absurd hj (by omega)), by first | rfl | trivial⟩
  case round =>
    obtain ⟨k, hk, rfl, hag, rfl⟩ := hrel
    have HG := Lib.hid hag
    clear hag
    by_cases hlt : k < n
    · have hkl : k < ws.length := by rw [HL.out]; exact hlt
      obtain ⟨v, hv⟩ : ∃ v, v = ws.getD k 0 := ⟨_, rfl⟩
      have hvm : v ∈ ws := by rw [hv, show ws.getD k 0 = ws[k] by simp [List.getD, hkl]]; exact List.getElem_mem hkl
      obtain ⟨b, off, rfl, hbn, hj⟩ := HR.out.2.resolve_left (by omega)
      have c1 := (hj k hlt).trans ((ints_get hkl).trans (by rw [← hv]))
      have CL := rightWords1_any wr v bt aoh m caph (HU.out v hvm) HT.out HB.out
      have ltI : (k : Int) < n := by omega
      have HV := Lib.hid hv
      have HKL := Lib.hid hkl
      clear hj hbn hv hvm hkl
      cases hiw : isWord v m
      · rw [hiw] at CL
        have HIW := Lib.hid hiw
        clear hiw
        go_wp2_with (go_at_call 105; refine CL.mono ?_; rintro e w2 ⟨rfl, rfl⟩)
        go_ret
        refine ⟨⟨_, rfl, ?_⟩, rfl⟩
        have : ws.any (fun v => !isWord v m) = true := by
          rw [List.any_eq_true]
          exact ⟨v, by rw [HV.out, show ws.getD k 0 = ws[k]'HKL.out by simp [List.getD, HKL.out]]; exact List.getElem_mem _, by simp [HIW.out]⟩
        rw [this]; simp
      · rw [hiw] at CL
        have HIW := Lib.hid hiw
        clear hiw
        go_wp2_with (go_at_call 105; refine CL.mono ?_; rintro e w2 ⟨rfl, rfl⟩)
        go_roundw
        case rel => exact ⟨k + 1, by omega, by go_num, (fun j hj => by
          rcases Nat.lt_or_ge j k with h | h
          · exact HG.out j h
          · obtain rfl : j = k := by omega
            rw [← HV.out]; exact HIW.out), by first | rfl | trivial⟩
        case measure => simp [intOf]; omega
    · obtain rfl : k = n := by omega
      go_wp2_with fail
      go_ret
      refine ⟨⟨_, rfl, ?_⟩, rfl⟩
      have : ws.any (fun v => !isWord v m) = false := by
        rw [List.any_eq_false]
        intro x hx
        obtain ⟨j, hj, rfl⟩ := List.getElem_of_mem hx
        have := HG.out j (by rw [← HL.out]; exact hj)
        rw [show ws.getD j 0 = ws[j] by simp [List.getD, hj]] at this
        simp [this]
      rw [this]; simp
theorem ContainsFuncW_any (w : World) (ao : Option Addr) (n cn : Nat) (ws : List Int) (bt : Nat) (aoh : Option Addr) (m caph : Nat) (hn : n ≤ 1000000) (hr : RdF w ao n (ints .u64 ws) []) (hu : ∀ v ∈ ws, Gp.u64 v) (hb : Bnd w) (ht : w.cell? ⟨bt, 0, none⟩ = some (.slice aoh m caph)) :
    Calls Tryd.prog 104 #[.slice ao n cn, .func (.func 105) #[] #[.pointer (some ⟨bt, 0, none⟩)]] w fun e w' => e = .returned (.bool (ws.any (fun v => !isWord v m))) ∧ w' = w := by
  have H := IndexFuncW_any w ao n cn ws bt aoh m caph hn hr hu hb ht
  clear hr hu hb ht
  generalize ws.any (fun v => !isWord v m) = r at *
  go_enter Tryd.func104, Tryd.ntmps104
  go_wp2_with (go_at_call 110; refine H.mono ?_; rintro e w2 ⟨⟨i, rfl, hi⟩, rfl⟩; have hI := Lib.hid hi; clear hi)
  go_ret
  exact ⟨by rw [← hI.out]; rfl, rfl⟩
theorem all_not (ws : List Int) (m : Nat) : (!ws.any (fun v => !isWord v m)) = ws.all (fun v => isWord v m) := by
  induction ws with
  | nil => rfl
  | cons x l ih => simp only [List.all_cons, List.any_cons, ← ih]; cases isWord x m <;> simp
theorem rightWords_any (w : World) (ao : Option Addr) (n cap : Nat) (aw : Option Addr) (m cw : Nat) (ws : List Int) (hm : m ≤ 1000000) (hrw : RdF w aw m (ints .u64 ws) []) (hu : ∀ v ∈ ws, Gp.u64 v) (hb : Bnd w) (p : Int) (s l : Int) (a3 a4 a6 : Option Addr) (n3 n4 n6 c3 c4 c6 : Nat) :
    Calls Tryd.prog 88 #[.agg #[.slice ao n cap, .int .u8 p, .int .i64 s, .slice a3 n3 c3, .slice a4 n4 c4, .int .i64 l, .slice a6 n6 c6], .slice aw m cw] w fun e w' => e = .returned (.bool (rightW n ws)) ∧ Ch [] w w' := by
  have C0 : Ch [] w (w.alloc (.cells #[.slice ao n cap, .int .u8 p, .int .i64 s, .slice a3 n3 c3, .slice a4 n4 c4, .int .i64 l, .slice a6 n6 c6] 65)) := (Ch.refl _ _).alloc _
  have CF := ContainsFuncW_any _ aw m cw ws w.heap.size ao n cap hm (hrw.ch C0 (by simp)) hu (Bnd.ch hb C0 (by simp)) (World.cell?_alloc_at _ _ _ _ rfl)
  unfold rightW
  rw [← all_not]
  have HC := Lib.hid C0
  clear C0 hrw hu hb
  generalize ws.any (fun v => !isWord v n) = r at *
  go_enter Tryd.func88, Tryd.ntmps88
  go_wp2_with fail
  refine CF.mono ?_
  rintro e w2 ⟨rfl, rfl⟩
  go_wp2_with fail
  go_ret
  exact ⟨rfl, HC.out⟩
end Go.Proofs.YtlhhcocdhkbdnaaDoor.Bp

set_option linter.unusedVariables false
set_option linter.unusedSimpArgs false
set_option maxRecDepth 100000
namespace Go.Proofs.YtlhhcocdhkbdnaaDoor.Bp
open Go.RowKit Go.Proofs.YtlhhcocdhkbdnaaDoor.Wd Go.Proofs.YtlhhcocdhkbdnaaDoor.Hp Go.Proofs.YtlhhcocdhkbdnaaDoor.Gp Go.Proofs.YtlhhcocdhkbdnaaDoor.Sm Go.Proofs.YtlhhcocdhkbdnaaDoor.Gr
def isGrey (x : Cel) : Bool := x.k != 0 && x.c == 1
def greyN : List Cel → Nat
  | [] => 0
  | x :: l => (if isGrey x then 1 else 0) + greyN l
theorem greyN_append : ∀ a b : List Cel, greyN (a ++ b) = greyN a + greyN b
  | [], b => by simp [greyN]
  | x :: a, b => by simp only [List.cons_append, greyN, greyN_append a b]; omega
theorem greyN_le : ∀ l : List Cel, greyN l ≤ l.length
  | [] => Nat.le_refl _
  | x :: l => by have := greyN_le l; simp only [greyN, List.length_cons]; split <;> omega
/-- May c stand in the row of grey ones? -/
def greyC (h : List Cel) (c : Int) : Bool := decide (0 ≤ c) && (decide (c < h.length) && isGrey (h.getD c.toNat z))
def nodupB : List Int → Bool
  | [] => true
  | x :: l => !(l.contains x) && nodupB l
theorem nodupB_iff : ∀ l : List Int, nodupB l = true ↔ l.Nodup
  | [] => by simp [nodupB]
  | x :: l => by simp only [nodupB, Bool.and_eq_true, Bool.not_eq_true', List.nodup_cons, nodupB_iff l]; rw [← Bool.not_eq_true, List.contains_iff_mem]
def greyOk (h : List Cel) (l : List Int) : Bool := l.all (greyC h) && nodupB l
def numsOk (v : Vw) : Bool := !(decide (3 < v.ph)) && (!(decide (v.sw < 0)) && (!(decide ((v.cells.length : Int) < v.sw)) && (!(decide (v.laid < 0)) && !(decide ((v.globals.length : Int) < v.laid)))))
def cellOk (n : Nat) (x : Cel) : Bool := !(decide (3 < x.k)) && (!(decide (2 < x.c)) && (x.k == 0 || rightW n [x.a, x.b]))
def mayV (v : Vw) : Bool := numsOk v && (rightW v.cells.length v.globals && (v.cells.all (cellOk v.cells.length) && (greyOk v.cells v.grey && (decide (greyN v.cells = v.grey.length) && v.lanes.all (fun l => rightW v.cells.length l.roots)))))
set_option maxHeartbeats 1000000 in
/-- A lane's closure. -/
theorem may1_any (w : World) (a : VA) (v : Vw) (bt : Nat) (ar : Option Addr) (m cr : Nat) (ws : List Int) (sc en : Bool) (hb : Bnd w) (hm : m ≤ 1000000) (hrw : RdF w ar m (ints .u64 ws) []) (hu : ∀ x ∈ ws, Gp.u64 x) (ht : w.heap[bt]? = some (.cells (a.arr v) 65 (0, 0))) :
    Calls Tryd.prog 90 #[.agg #[.slice ar m cr, .bool sc, .bool en], .pointer (some ⟨bt, 0, none⟩)] w fun e w' => e = .returned (.bool (!rightW v.cells.length ws)) ∧ Ch [] w w' := by
  have C0 : Ch [] w (w.alloc (.cells #[.slice ar m cr, .bool sc, .bool en] 71)) := (Ch.refl _ _).alloc _
  have R := rightWords_any _ a.ac v.cells.length a.cc ar m cr ws hm (hrw.ch C0 (by simp)) hu (Bnd.ch hb C0 (by simp)) v.ph v.sw v.laid a.ag a.agl a.al v.grey.length v.globals.length v.lanes.length a.cg a.cgl a.cl
  have ht' := C0.heap ht (by simp)
  unfold VA.arr at ht'
  have k0 := cell_at (i := 0) ht'
  have k1 := cell_at (i := 1) ht'
  have k2 := cell_at (i := 2) ht'
  have k3 := cell_at (i := 3) ht'
  have k4 := cell_at (i := 4) ht'
  have k5 := cell_at (i := 5) ht'
  have k6 := cell_at (i := 6) ht'
  simp only [List.getElem?_toArray, List.getElem?_cons_zero, List.getElem?_cons_succ] at k0 k1 k2 k3 k4 k5 k6
  have HC := Lib.hid C0
  clear C0 hrw hu hb ht ht'
  generalize rightW v.cells.length ws = r at *
  go_enter Tryd.func90, Tryd.ntmps90
  go_wp2_with fail
  refine R.mono ?_
  rintro e w2 ⟨rfl, h2⟩
  have H2 := Lib.hid (HC.out.trans' h2)
  clear R h2 k0 k1 k2 k3 k4 k5 k6
  go_wp2_with fail
  go_ret
  exact ⟨rfl, H2.out⟩
set_option maxHeartbeats 1000000 in
theorem IndexFuncL_any (w : World) (a : VA) (v : Vw) (bt : Nat) (hb : Bnd w) (hv : VM w a v) (hr : VR v) (ht : w.heap[bt]? = some (.cells (a.arr v) 65 (0, 0))) :
    Calls Tryd.prog 106 #[.slice a.al v.lanes.length a.cl, .func (.func 90) #[] #[.pointer (some ⟨bt, 0, none⟩)]] w fun e w' => (∃ i : Int, e = .returned (.int .i64 i) ∧ decide (0 ≤ i) = v.lanes.any (fun l => !rightW v.cells.length l.roots)) ∧ Ch [] w w' := by
  have HV := Lib.hid hv
  have HR := Lib.hid hr
  have HB := Lib.hid hb
  have HT := Lib.hid ht
  have hn := hr.n4
  clear hv hr hb ht
  generalize hnl : v.lanes.length = n at *
  have HN := Lib.hid hnl
  clear hnl
  go_enter Tryd.func106, Tryd.ntmps106
  go_wp2_with fail
  go_loopw [8] (fun i wr => ∃ k : Nat, k ≤ n ∧ i = .int .i64 k ∧ (∀ j, j < k → rightW v.cells.length (v.lanes.getD j ln0).roots = true) ∧ Ch [] w wr) (fun i _ => n - (intOf i).toNat)
  case atStart => exact ⟨0, by omega, rfl, (fun j hj => absurd hj (by omega)), Ch.refl _ _⟩
  case round =>
    obtain ⟨k, hk, rfl, hag, hc⟩ := hrel
    have HG := Lib.hid hag
    have HC := Lib.hid hc
    clear hag
    by_cases hlt : k < n
    · have hkl : k < v.lanes.length := by rw [HN.out]; exact hlt
      obtain ⟨b, off, hal, c1, c2, c3⟩ := (HV.out.ch hc).lane k hkl
      have hmem := lane_mem hkl
      have hm : (v.lanes.getD k ln0).roots.length ≤ 1000000 := by have := rootsN_mem hmem; have := HR.out.n5; omega
      have M := may1_any wr a v bt (a.la k) _ (a.lc k) (v.lanes.getD k ln0).roots (v.lanes.getD k ln0).sc (v.lanes.getD k ln0).en (Bnd.ch HB.out hc (by simp)) hm ((HV.out.ch hc).roots k hkl) (HR.out.roots _ hmem) (hc.heap HT.out (by simp))
      have ltI : (k : Int) < n := by omega
      have HKL := Lib.hid hkl
      clear hc hmem hm hkl
      rw [hal]
      clear hal
      generalize hx : v.lanes.getD k ln0 = x at *
      have HX := Lib.hid hx
      clear hx
      generalize x.sc = xs at *
      generalize x.en = xe at *
      generalize hrr : rightW v.cells.length x.roots = rr at *
      have HRR := Lib.hid hrr
      clear hrr
      generalize x.roots.length = xl at *
      generalize a.la k = xa at *
      generalize a.lc k = xc at *
      cases rr
      · go_wp2_with (go_at_call 90; refine M.mono ?_; rintro e w2 ⟨rfl, h2⟩)
        go_ret
        refine ⟨⟨_, rfl, ?_⟩, HC.out.trans' h2⟩
        have : v.lanes.any (fun l => !rightW v.cells.length l.roots) = true := by
          rw [List.any_eq_true]
          exact ⟨v.lanes.getD k ln0, lane_mem HKL.out, by rw [HX.out, HRR.out]; rfl⟩
        rw [this]; simp
      · go_wp2_with (go_at_call 90; refine M.mono ?_; rintro e w2 ⟨rfl, h2⟩; have H2 := Lib.hid h2; clear h2)
        go_roundw
        case rel => exact ⟨k + 1, by omega, by go_num, (fun j hj => by
          rcases Nat.lt_or_ge j k with h | h
          · exact HG.out j h
          · obtain rfl : j = k := by omega
            rw [HX.out]; exact HRR.out), HC.out.trans' H2.out⟩
        case measure => simp [intOf]; omega
    · obtain rfl : k = n := by omega
      clear hc
      go_wp2_with fail
      go_ret
      refine ⟨⟨_, rfl, ?_⟩, HC.out⟩
      have : v.lanes.any (fun l => !rightW v.cells.length l.roots) = false := by
        rw [List.any_eq_false]
        intro x hx
        obtain ⟨j, hj, rfl⟩ := List.getElem_of_mem hx
        have := HG.out j (by rw [← HN.out]; exact hj)
        rw [show v.lanes.getD j ln0 = v.lanes[j] by simp [List.getD, hj]] at this
        simp [this]
      rw [this]; simp
theorem ContainsFuncL_any (w : World) (a : VA) (v : Vw) (bt : Nat) (hb : Bnd w) (hv : VM w a v) (hr : VR v) (ht : w.heap[bt]? = some (.cells (a.arr v) 65 (0, 0))) :
    Calls Tryd.prog 89 #[.slice a.al v.lanes.length a.cl, .func (.func 90) #[] #[.pointer (some ⟨bt, 0, none⟩)]] w fun e w' => e = .returned (.bool (!v.lanes.all (fun l => rightW v.cells.length l.roots))) ∧ Ch [] w w' := by
  have H := IndexFuncL_any w a v bt hb hv hr ht
  have e1 : (!v.lanes.all (fun l => rightW v.cells.length l.roots)) = v.lanes.any (fun l => !rightW v.cells.length l.roots) := by
    generalize v.lanes = L
    induction L with
    | nil => rfl
    | cons x l ih => simp only [List.all_cons, List.any_cons, ← ih]; cases rightW v.cells.length x.roots <;> simp
  rw [e1]
  clear hb hv hr ht e1
  generalize v.lanes.any (fun l => !rightW v.cells.length l.roots) = r at *
  generalize v.lanes.length = n at *
  go_enter Tryd.func89, Tryd.ntmps89
  go_wp2_with (go_at_call 106; refine H.mono ?_; rintro e w2 ⟨⟨i, rfl, hi⟩, h2⟩; have hI := Lib.hid hi; have H2 := Lib.hid h2; clear hi h2)
  go_ret
  exact ⟨by rw [← hI.out]; rfl, H2.out⟩
end Go.Proofs.YtlhhcocdhkbdnaaDoor.Bp
