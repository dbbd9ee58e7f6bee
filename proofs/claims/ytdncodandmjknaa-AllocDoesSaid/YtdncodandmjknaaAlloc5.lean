/-
  THE WALKS of package alloc, on: Finish, Waiting; of dappleref00.SameWaiters.
-/
import Derived.Test.YtdncodandmjknaaAlloc4
import Derived.Test.YtdncodandmjknaaAllocInv
import Derived.Test.YtdncodandmjknaaHeap2
import Derived.WalkSpells
set_option linter.unusedVariables false
set_option linter.unusedSimpArgs false
set_option maxRecDepth 100000
namespace Go.Proofs.Ytdncodandmjknaa.Al
open Go.RowKit Go.Proofs.Ytdncodandmjknaa.Hp Go.Proofs.Ytdncodandmjknaa.Sm Go.Proofs.Ytdncodandmjknaa.Ap

theorem wcells_take_succ {l : List (Int × Int)} {k : Nat} (h : k < l.length) : l.take (k + 1) = l.take k ++ [l.getD k (0, 0)] := by
  rw [List.take_succ_eq_append_getElem h]; simp [List.getD, h]
theorem wcells_append (a b : List (Int × Int)) : wcells (a ++ b) = wcells a ++ wcells b := by simp [wcells]

set_option maxHeartbeats 400000 in
theorem Clone_any (w : World) (ao : Option Addr) (n cap : Nat) (l : List (Int × Int)) (hcap : n ≤ cap) (hcm : cap ≤ maxLen) (hb : n ≤ 8796093022208) (hl : l.length = n) (hx : Rd w ao (n * 2) (wcells l)) :
    Calls Try.prog 47 #[.slice ao n cap] w fun e w' => ∃ v rs, e = .returned v ∧ Row w' 101 2 v rs n (wcells l) ∧ Ch [] w w' ∧ (∀ q ∈ rs, w.heap.size ≤ q ∧ q < w'.heap.size) := by
  obtain ⟨i0, hi, hz0, hz1, hz2⟩ := info_parts infoW
  unfold maxLen at hcm
  have qn : ∀ (w : World) (a : Option Addr) (n c : Nat), (binOp .eql 60 (.slice a n c) (.slice none 0 0)).run Try.prog w = .ok (.bool a.isNone) w := fun w a n c => Lib.run_eql_slice_nil w _ _ a n c 0 0 Try.underlying60
  cases ao with
  | none =>
    have h0 : n = 0 := by
      rcases hx.2 with h | ⟨b, off, h, _⟩
      · omega
      · cases h
    subst h0
    obtain rfl : l = [] := List.eq_nil_of_length_eq_zero hl
    clear hx
    go_enter Try.func47, Try.ntmps47
    go_wp2_with fail
    go_ret
    exact ⟨_, [], rfl, Row.nil _ _ _ _, Ch.refl _ _, fun q hq => by cases hq⟩
  | some ad =>
    have HX := Lib.hid hx
    clear hx
    have hbs : Ch [] w (w.alloc (.cells #[] 101)) := (Ch.refl _ _).alloc _
    have HBS := Lib.hid hbs
    have hsrc : ∀ j u, (wcells l)[j]? = some u → (w.alloc (.cells #[] 101)).cell? (ad.add j) = some u := by
      intro j u hj
      have hjl : j < n * 2 := by
        have := (List.getElem?_eq_some_iff.1 hj).1; rw [wcells_length] at this; omega
      rcases HX.out.2 with h | ⟨b, off, h, hc⟩
      · omega
      · cases h
        have := (hc j hjl).trans hj
        rw [Addr.add_lit]
        exact HBS.out.cell this (by simp)
    have HSRC := Lib.hid hsrc
    have h1c : ∀ u ∈ wcells l, u.oneCell' = true := by
      intro u hu
      unfold wcells at hu
      rw [List.mem_flatMap] at hu
      obtain ⟨x, _, hu⟩ := hu
      simp at hu
      rcases hu with rfl | rfl <;> rfl
    have H1C := Lib.hid h1c
    have HL := Lib.hid hl
    clear hsrc h1c hbs hl
    have hr0 : ∀ w' : World, Row w' 101 2 (.slice (some ⟨w.heap.size, 0, none⟩) 0 0) [] 0 [] := fun w' => ⟨by simp, _, 0, rfl, Nat.le_refl _, by simp [maxLen], fun _ => rfl, .inl rfl⟩
    have HR0 := Lib.hid hr0
    clear hr0
    go_enter Try.func47, Try.ntmps47
    go_wp2_with (at_builtin; refine wpList_append_row _ rfl _ _ 60 rfl 101 i0 (.agg #[.int .i64 0, .int .i64 0]) 2 16 Try.underlying60 hi hz0 hz1 hz2 rfl (by decide) rfl (HR0.out _) ad n cap (wcells l) rfl (by rw [wcells_length, HL.out]) HSRC.out H1C.out (by unfold maxLen; omega) (by omega) ?_)
    intro v' w1 qs' hr4 hc4 hq4
    have HR4 := Lib.hid hr4
    have HC4 := Lib.hid hc4
    have HQ4 := Lib.hid hq4
    clear hr4 hc4 hq4
    go_wp2_with fail
    go_ret
    have h := HR4.out
    refine ⟨v', qs', rfl, h, HBS.out.trans' HC4.out, fun q hq => ?_⟩
    rcases HQ4.out with e | ⟨q', e, h3, h4⟩
    · rw [e] at hq; cases hq
    · rw [e] at hq; simp only [List.mem_singleton] at hq; subst hq
      have := HBS.out.size
      omega

theorem Waiting_any (w : World) (p c : Nat) (qs : List Nat) (s : St) (h : Is w p c qs s) :
    Calls Try.prog 18 #[.pointer (some ⟨p, 0, none⟩)] w fun e w' => ∃ v rs, e = .returned v ∧ Row w' 101 2 v rs s.q.length (wcells s.q) ∧ Ch [] w w' ∧ (∀ q ∈ rs, w.heap.size ≤ q ∧ q < w'.heap.size) := by
  obtain ⟨ao, cap, o1, o2, o3, o4, o5, o6, o7, o8, o9, o10⟩ := h.open
  have C := Clone_any w ao s.q.length cap s.q o4 o5 (by have := h.ok.ql; omega) rfl o6
  clear h o1 o3 o4 o5 o6 o7 o8 o9 o10
  generalize wcells s.q = cells at *
  generalize s.q.length = n at *
  go_enter Try.func18, Try.ntmps18
  go_wp2_with fail
  refine C.mono ?_
  rintro e w2 ⟨v, rs, rfl, h1, h2, h3⟩
  have H := Lib.hid (And.intro h1 (And.intro h2 h3))
  clear h1 h2 h3 C
  go_wp2_with fail
  go_ret
  exact ⟨v, rs, rfl, H.out⟩

set_option maxHeartbeats 1000000 in
theorem SameWaiters_eq (w : World) (ao bo : Option Addr) (n cn cm : Nat) (l : List (Int × Int)) (hn : n ≤ 1000000) (hx : Rd w ao (n * 2) (wcells l)) (hy : Rd w bo (n * 2) (wcells l)) :
    Calls Try.prog 17 #[.slice ao n cn, .slice bo n cm] w fun e w' => e = .returned (.bool true) ∧ ∃ d, w' = w.drewN d := by
  obtain ⟨hxl, b, off, hao, hcx⟩ := rd_wait hx
  obtain ⟨hyl, b', off', hbo, hcy⟩ := rd_wait hy
  have HA := Lib.hid hao
  have HB := Lib.hid hbo
  have HC := Lib.hid hcx
  have HD := Lib.hid hcy
  clear hao hbo hcx hcy hx hy hxl hyl
  go_enter Try.func17, Try.ntmps17
  go_wp2_with fail
  go_loopw [5] (fun i wr => ∃ k d : Nat, k ≤ n ∧ i = .int .i64 k ∧ wr = w.drewN d) (fun i _ => n - (intOf i).toNat)
  case atStart => exact ⟨0, 0, by omega, rfl, rfl⟩
  case round =>
    obtain ⟨k, d, hk, rfl, rfl⟩ := hrel
    by_cases hlt : k < n
    · obtain rfl := HA.out (by omega)
      obtain rfl := HB.out (by omega)
      obtain ⟨c1, c2⟩ := HC.out k hlt
      obtain ⟨d1, d2⟩ := HD.out k hlt
      have e1 : (w.drewN d).cell? _ = _ := c1
      have e2 : (w.drewN d).cell? _ = _ := c2
      have f1 : (w.drewN d).cell? _ = _ := d1
      have f2 : (w.drewN d).cell? _ = _ := d2
      clear c1 c2 d1 d2
      have DD : ∃ wd, wd = w.drewN d := ⟨_, rfl⟩
      obtain ⟨wd, hwd⟩ := DD
      rw [← hwd] at e1 e2 f1 f2 ⊢
      have HW := Lib.hid hwd
      clear hwd
      generalize (l.getD k (0, 0)).1 = u at *
      generalize (l.getD k (0, 0)).2 = u2 at *
      have ltI : (k : Int) < n := by omega
      go_wp2_with fail
      go_quiet (fail)
      go_wp2_with fail
      go_roundw
      case rel => exact ⟨k + 1, _, by omega, by go_num, by rw [HW.out, World.drewN_drewN]⟩
      case measure => simp [intOf]; omega
    · obtain rfl : k = n := by omega
      go_wp2_with fail
      go_ret
      exact ⟨rfl, d, rfl⟩

def finTo (s : St) (cy : Int) (k : Nat) : List (Int × Int) := (s.q.take k).filter (fun x => decide (x.2 < cy))
def finI (s : St) (cy : Int) (k : Nat) : List Int := (finTo s cy k).map (·.1)
def restTo (s : St) (cy : Int) (k : Nat) : List (Int × Int) := (s.q.take k).filter (fun x => !decide (x.2 < cy))
theorem finTo_hit {s : St} {cy : Int} {k : Nat} (hk : k < s.q.length) (h : (s.q.getD k (0, 0)).2 < cy) : finI s cy (k + 1) = finI s cy k ++ [(s.q.getD k (0, 0)).1] ∧ restTo s cy (k + 1) = restTo s cy k := by
  unfold finI finTo restTo
  rw [wcells_take_succ hk, List.filter_append, List.filter_append]
  simp only [List.filter_cons, List.filter_nil, decide_eq_true h]
  simp
theorem finTo_miss {s : St} {cy : Int} {k : Nat} (hk : k < s.q.length) (h : ¬ (s.q.getD k (0, 0)).2 < cy) : finI s cy (k + 1) = finI s cy k ∧ restTo s cy (k + 1) = restTo s cy k ++ [s.q.getD k (0, 0)] := by
  unfold finI finTo restTo
  rw [wcells_take_succ hk, List.filter_append, List.filter_append]
  simp only [List.filter_cons, List.filter_nil, decide_eq_false h]
  simp
theorem finTo_le (s : St) (cy : Int) (k : Nat) : (finI s cy k).length ≤ k ∧ (restTo s cy k).length ≤ k := by
  unfold finI finTo restTo
  rw [List.length_map]
  exact ⟨Nat.le_trans (List.length_filter_le _ _) (List.length_take_le _ _), Nat.le_trans (List.length_filter_le _ _) (List.length_take_le _ _)⟩

theorem Finish_not (w : World) (p c : Nat) (qs : List Nat) (s : St) (cy fr : Int) (h : Is w p c qs s) (hf : fr ≠ 0) :
    Calls Try.prog 24 #[.pointer (some ⟨p, 0, none⟩), .int .i64 cy, .int .i64 fr] w fun e w' => e = .returned (.slice none 0 0) ∧ w = w' := by
  have hf' : (fr != 0) = true := by simpa using hf
  clear h hf
  go_enter Try.func24, Try.ntmps24
  go_wp2_with fail
  go_ret
  exact ⟨rfl, rfl⟩
def FinR (w : World) (s : St) (cy : Int) (v u : Value) (k : Nat) (rs ts : List Nat) (wr : World) : Prop :=
  Row wr 3 1 v rs (finI s cy k).length (ints .i64 (finI s cy k)) ∧ Row wr 101 2 u ts (restTo s cy k).length (wcells (restTo s cy k)) ∧ Ch [] w wr ∧
  (∀ q ∈ rs, w.heap.size ≤ q ∧ q < wr.heap.size) ∧ (∀ q ∈ ts, w.heap.size ≤ q ∧ q < wr.heap.size) ∧ (∀ q ∈ rs, q ∉ ts)
set_option maxHeartbeats 1000000 in
theorem Finish_loop (w : World) (p c : Nat) (qs : List Nat) (s : St) (cy : Int) (h : Is w p c qs s) :
    Calls Try.prog 24 #[.pointer (some ⟨p, 0, none⟩), .int .i64 cy, .int .i64 0] w fun e w' => ∃ v rs qs', e = .returned v ∧ Row w' 3 1 v rs (finishL s cy 0).length (ints .i64 (finishL s cy 0)) ∧
      Is w' p c qs' (finish s cy 0) ∧ Ch [p] w w' ∧ (∀ q ∈ rs, w.heap.size ≤ q ∧ q < w'.heap.size ∧ q ∉ qs') ∧ (∀ q ∈ qs', w.heap.size ≤ q) := by
  obtain ⟨i0, hi, hz0, hz1, hz2⟩ := info_parts info3
  obtain ⟨i1, hi', hy0, hy1, hy2⟩ := info_parts infoW
  have hne := h.ne
  have hpc := h.lt
  obtain ⟨ao, cap, o1, o2, o3, o4, o5, o6, o7, o8, o9, o10⟩ := h.open
  obtain ⟨hxl, b, off, hao, hcx⟩ := rd_wait o6
  obtain ⟨N, hN⟩ : ∃ N, N = s.q.length := ⟨_, rfl⟩
  have hql := h.ok.ql
  rw [← hN] at o2 hql hao hcx
  have HA := Lib.hid hao
  have HC := Lib.hid hcx
  have HN := Lib.hid hN
  have HI := Lib.hid h
  have f10 := o9 10
  clear h o1 o3 o4 o5 o6 o7 o8 o9 o10 hao hcx hN hxl
  go_enter Try.func24, Try.ntmps24
  go_wp2_with fail
  go_loopw [7, 8, 18] (fun v u i wr => ∃ (k : Nat) (rs ts : List Nat), k ≤ N ∧ i = .int .i64 k ∧ FinR w s cy v u k rs ts wr) (fun _ _ i _ => N - (intOf i).toNat)
  case atStart => exact ⟨0, [], [], by omega, rfl, Row.nil _ _ _ _, Row.nil _ _ _ _, Ch.refl _ _, (fun q hq => by cases hq), (fun q hq => by cases hq), (fun q hq => by cases hq)⟩
  case round =>
    obtain ⟨k, rs, ts, hk, rfl, hrow, hrow2, hch, hrs, hts, hdis⟩ := hrel
    have HR := Lib.hid hrow
    have HR' := Lib.hid hrow2
    have HCH := Lib.hid hch
    have HS := Lib.hid hrs
    have HT := Lib.hid hts
    have HD := Lib.hid hdis
    by_cases hlt : k < N
    · obtain rfl := HA.out (by omega)
      obtain ⟨c1, c2⟩ := HC.out k hlt
      have d1 := hch.cell c1 (by simp)
      have d2 := hch.cell c2 (by simp)
      have hle := finTo_le s cy k
      obtain ⟨ao', cap', rfl, _⟩ := hrow.rd
      obtain ⟨ao2, cap2, rfl, _⟩ := hrow2.rd
      have hhit := fun h => finTo_hit (s := s) (cy := cy) (k := k) (by rw [← HN.out]; exact hlt) h
      have hmis := fun h => finTo_miss (s := s) (cy := cy) (k := k) (by rw [← HN.out]; exact hlt) h
      have HHIT := Lib.hid hhit
      have HMIS := Lib.hid hmis
      clear hrow hrow2 hch hrs hts hdis c1 c2 hhit hmis
      generalize s.q.getD k (0, 0) = x at *
      obtain ⟨x1, x2⟩ := x
      simp only at d1 d2
      have ltI : (k : Int) < N := by omega
      generalize hm : (finI s cy k).length = m at *
      have HM := Lib.hid hm
      generalize hm' : (restTo s cy k).length = m' at *
      have HM' := Lib.hid hm'
      clear hm hm'
      have CA : Ch [] wr (wr.alloc (.cells #[.int .i64 x1, .int .i64 x2] 101)) := (Ch.refl _ _).alloc _
      have HCA := Lib.hid CA
      clear CA
      by_cases hx2 : x2 < cy
      · have hx2' : decide (x2 < cy) = true := by simpa using hx2
        have e := HHIT.out hx2
        have E1 := Lib.hid e
        clear e
        have R1 := HR.out.ch (HCA.out.alloc (.cells #[.int .i64 x1] 3)) (by simp)
        have HN1 := Lib.hid (newL (w := (wr.alloc (.cells #[.int .i64 x1, .int .i64 x2] 101))) (b := wr.heap.size + 1) (by simp) [.int .i64 x1] 3)
        have HR1 := Lib.hid R1
        clear R1
        go_wp2_with (at_builtin; refine wpList_append_row _ rfl (.tmp 26) (.tmp 29) 65 rfl 3 i0 (.int .i64 0) 1 8 Try.underlying65 hi hz0 hz1 hz2 rfl (by decide) rfl HR1.out ⟨wr.heap.size + 1, 0, none⟩ 1 1 [.int .i64 x1] rfl rfl HN1.out (one1 _ _) (by unfold maxLen; omega) (by omega) ?_)
        intro v' w1 qs' hr4 hc4 hq4
        have HR4 := Lib.hid hr4
        have HC4 := Lib.hid hc4
        have HQ4 := Lib.hid hq4
        clear hr4 hc4 hq4
        go_wp2_with fail
        go_roundw
        case rel =>
          have C2 : Ch [] wr ((wr.alloc (.cells #[.int .i64 x1, .int .i64 x2] 101)).alloc (.cells #[.int .i64 x1] 3)) := HCA.out.alloc _
          have hs1 := HCH.out.size
          have hs2 := C2.size
          have hs3 := HC4.out.size
          refine ⟨k + 1, qs', ts, by omega, by go_num, ?_, ?_, (HCH.out.trans' C2).trans HC4.out (fun x hx => .inr (HS.out x hx).1), fun q hq => ?_, fun q hq => ⟨(HT.out q hq).1, by have := (HT.out q hq).2; omega⟩, fun q hq => ?_⟩
          · rw [E1.out.1, List.length_append, HM.out]
            have := HR4.out
            simp only [ints, List.map_append, List.map_cons, List.map_nil] at this ⊢
            exact this
          · rw [E1.out.2]
            rw [HM'.out]
            exact (HR'.out.ch C2 (by simp)).ch HC4.out (fun q hq hm => HD.out q hm hq)
          · rcases HQ4.out with e | ⟨q', e, h3, h4⟩
            · rw [e] at hq; have := HS.out q hq; omega
            · rw [e] at hq; simp only [List.mem_singleton] at hq; subst hq; omega
          · rcases HQ4.out with e | ⟨q', e, h3, h4⟩
            · rw [e] at hq; exact HD.out q hq
            · rw [e] at hq; simp only [List.mem_singleton] at hq; subst hq; intro hm; have := (HT.out q hm).2; omega
        case measure => simp [intOf]; omega
      · have hx2' : decide (x2 < cy) = false := by simpa using hx2
        have e := HMIS.out hx2
        have E1 := Lib.hid e
        clear e
        have R1 := HR'.out.ch (HCA.out.alloc (.cells #[.int .i64 x1, .int .i64 x2] 101)) (by simp)
        have HN1 := Lib.hid (newL (w := (wr.alloc (.cells #[.int .i64 x1, .int .i64 x2] 101))) (b := wr.heap.size + 1) (by simp) [.int .i64 x1, .int .i64 x2] 101)
        have HR1 := Lib.hid R1
        clear R1
        go_wp2_with (at_builtin; refine wpList_append_row _ rfl (.tmp 31) (.tmp 33) 60 rfl 101 i1 (.agg #[.int .i64 0, .int .i64 0]) 2 16 Try.underlying60 hi' hy0 hy1 hy2 rfl (by decide) rfl HR1.out ⟨wr.heap.size + 1, 0, none⟩ 1 1 [.int .i64 x1, .int .i64 x2] rfl rfl HN1.out (one2 _ _ _ _) (by unfold maxLen; omega) (by omega) ?_)
        intro v' w1 qs' hr4 hc4 hq4
        have HR4 := Lib.hid hr4
        have HC4 := Lib.hid hc4
        have HQ4 := Lib.hid hq4
        clear hr4 hc4 hq4
        go_wp2_with fail
        go_roundw
        case rel =>
          have C2 : Ch [] wr ((wr.alloc (.cells #[.int .i64 x1, .int .i64 x2] 101)).alloc (.cells #[.int .i64 x1, .int .i64 x2] 101)) := HCA.out.alloc _
          have hs1 := HCH.out.size
          have hs2 := C2.size
          have hs3 := HC4.out.size
          refine ⟨k + 1, rs, qs', by omega, by go_num, ?_, ?_, (HCH.out.trans' C2).trans HC4.out (fun x hx => .inr (HT.out x hx).1), fun q hq => ⟨(HS.out q hq).1, by have := (HS.out q hq).2; omega⟩, fun q hq => ?_, fun q hq => ?_⟩
          · rw [E1.out.1, HM.out]
            exact (HR.out.ch C2 (by simp)).ch HC4.out (fun q hq hm => HD.out q hq hm)
          · rw [E1.out.2, List.length_append, HM'.out, wcells_append]
            exact HR4.out
          · rcases HQ4.out with e | ⟨q', e, h3, h4⟩
            · rw [e] at hq; have := HT.out q hq; omega
            · rw [e] at hq; simp only [List.mem_singleton] at hq; subst hq; omega
          · rcases HQ4.out with e | ⟨q', e, h3, h4⟩
            · rw [e]; exact HD.out q hq
            · rw [e]; simp only [List.mem_singleton]; intro hm; have := (HS.out q hq).2; omega
        case measure => simp [intOf]; omega
    · obtain rfl : k = N := by omega
      have o2' := hch.cell o2 (by simp)
      have f10' := (hch.frozen (p := ⟨p, 10, none⟩) hpc.1 (by simp)).trans f10
      obtain ⟨ao', cap', rfl, _⟩ := hrow.rd
      obtain ⟨ao2, cap2, rfl, _⟩ := hrow2.rd
      clear hrow hrow2 hch hrs hts hdis f10 o2
      go_wp2_with fail
      go_ret
      have hl : s.q.take k = s.q := List.take_of_length_le (by have := HN.out; omega)
      have e1 : finishL s cy 0 = finI s cy k := by unfold finishL finI finTo; rw [hl]; rfl
      have e2 : finish s cy 0 = { s with q := restTo s cy k } := by unfold finish restTo; rw [hl]; rfl
      have hI := HI.out.ch HCH.out (by simp) (by simp) (by simp)
      obtain ⟨⟨qv, hd, hr⟩, hqne, hok⟩ := hI
      rw [e1, e2]
      refine ⟨_, rs, ts, rfl, HR.out.keep (fun q hq o ho => (heap_set_ne (show q ≠ p by have := (HS.out q hq).1; omega)).trans ho), Is.mkQ hd _ _ HR'.out (fun q hq => ?_) (by rw [← e2]; unfold finish; rw [if_pos rfl]; exact hok.sub List.filter_sublist), (HCH.out.mono (by simp)).setCell _ _ (.inl (by simp)), fun q hq => ?_, fun q hq => (HT.out q hq).1⟩
      · have := HT.out q hq; omega
      · have := HS.out q hq; exact ⟨this.1, by simpa [World.setCell] using this.2, HD.out q hq⟩
end Go.Proofs.Ytdncodandmjknaa.Al
