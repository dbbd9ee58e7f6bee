/-
  THE WALK of BarrierViews.
-/
import Derived.Test.YtlhhcocdhkbdnaaDoorQJAsks
import Derived.BigRegion
set_option linter.unusedVariables false
set_option linter.unusedSimpArgs false
set_option maxRecDepth 100000
namespace Go.Proofs.YtlhhcocdhkbdnaaDoor.L13
open Go.RowKit Go.Proofs.YtlhhcocdhkbdnaaDoor.Wd Go.Proofs.YtlhhcocdhkbdnaaDoor.Hp Go.Proofs.YtlhhcocdhkbdnaaDoor.Gp Go.Proofs.YtlhhcocdhkbdnaaDoor.Sm Go.Proofs.YtlhhcocdhkbdnaaDoor.Gr Go.Proofs.YtlhhcocdhkbdnaaDoor.Bp Go.Proofs.YtlhhcocdhkbdnaaDoor.OV Go.Proofs.YtlhhcocdhkbdnaaDoor.Own
/-- What the owner writes: words changed about, lanes that were not scanned. -/
def swp (x : Cel) : Cel := ⟨x.k, x.c, x.b, x.a⟩
def flp (l : Ln) : Ln := ⟨l.roots, !l.sc, l.en⟩
def turned (v : Vw) : Vw := ⟨v.cells.map swp, v.ph, v.sw, v.grey, v.globals, v.laid, v.lanes.map flp⟩
theorem swp_in {x : Cel} (h : InR x) : InR (swp x) := ⟨h.1, h.2.1, h.2.2.1, h.2.2.2.1, h.2.2.2.2.2, h.2.2.2.2.1⟩
theorem rootsN_flp (l : List Ln) : rootsN (l.map flp) = rootsN l := by
  unfold rootsN
  rw [List.map_map]
  rfl
theorem getD_map {α β : Type} (f : α → β) (l : List α) (d : α) (e : β) (i : Nat) (h : i < l.length) : (l.map f).getD i e = f (l.getD i d) := by
  simp [List.getD, h]
theorem VR.turned {v : Vw} (h : VR v) : VR (turned v) :=
  ⟨fun x hx => by
    obtain ⟨y, hy, rfl⟩ := List.mem_map.1 hx
    exact swp_in (h.cells y hy), h.ph, h.sw, h.laid, h.grey, h.globals, fun l hl x hx => by
    obtain ⟨y, hy, rfl⟩ := List.mem_map.1 hl
    exact h.roots y hy x hx, by simpa [L13.turned] using h.n1, h.n2, h.n3, by simpa [L13.turned] using h.n4, by unfold L13.turned; simp only [rootsN_flp]; exact h.n5⟩
/-- The owner's cells, the first j of them turned. -/
structure SwS (h : List Cel) (j : Nat) (arr : Array Value) : Prop where
  get : ∀ i t, i < h.length → t < 4 → arr[i * 4 + t]? = (celV (if i < j then swp (h.getD i z) else h.getD i z))[t]?
theorem SwS.start (h : List Cel) : SwS h 0 (flat (h ++ [mk1, mk2])).toArray := ⟨fun i t hi ht => by
  rw [List.getElem?_toArray, flat_get _ i t (by simp; omega) ht]
  rw [if_neg (by omega), show (h ++ [mk1, mk2]).getD i z = h.getD i z by simp [List.getD, List.getElem?_append_left hi]]⟩
theorem SwS.next {h : List Cel} {j : Nat} {arr : Array Value} (k : SwS h j arr) (hi : j < h.length) : SwS h (j + 1) ((arr.setIfInBounds (j * 4 + 2) (.int .u64 (h.getD j z).b)).setIfInBounds (j * 4 + 3) (.int .u64 (h.getD j z).a)) := ⟨fun m t hm ht => by
  have hs3 : j * 4 + 3 < arr.size := by
    have := k.get j 3 hi (by omega)
    rw [show (celV (if j < j then swp (h.getD j z) else h.getD j z))[3]? = some (.int .u64 (h.getD j z).b) by rw [if_neg (by omega)]; rfl] at this
    exact (Array.getElem?_eq_some_iff.1 this).1
  rw [Array.getElem?_setIfInBounds, Array.getElem?_setIfInBounds]
  by_cases e : m = j
  · subst e
    rcases (show t = 0 ∨ t = 1 ∨ t = 2 ∨ t = 3 by omega) with rfl | rfl | rfl | rfl
    · rw [if_neg (by omega), if_neg (by omega), k.get m 0 hm (by omega), if_neg (by omega), if_pos (by omega)]; rfl
    · rw [if_neg (by omega), if_neg (by omega), k.get m 1 hm (by omega), if_neg (by omega), if_pos (by omega)]; rfl
    · rw [if_neg (by omega), if_pos rfl, if_pos (by omega), if_pos (by omega)]; rfl
    · rw [if_pos rfl, if_pos (by simp; omega), if_pos (by omega)]; rfl
  · rw [if_neg (by omega), if_neg (by omega), k.get m t hm ht]
    by_cases e3 : m < j
    · rw [if_pos e3, if_pos (by omega)]
    · rw [if_neg e3, if_neg (by omega)]⟩
theorem SwS.rd {h : List Cel} {arr : Array Value} {w : World} {q : Nat} (k : SwS h h.length arr) (hh : w.heap[q]? = some (.cells arr 58 (0, 0))) : RdF w (some ⟨q, 0, none⟩) ((h.map swp).length * 4) (flat (h.map swp)) [] :=
  ⟨flat_len _, .inr ⟨q, 0, rfl, by simp, fun m hm => by
    rw [List.length_map] at hm
    have e : m = m / 4 * 4 + m % 4 := by omega
    have h4 : m % 4 < 4 := Nat.mod_lt _ (by omega)
    have hl : m / 4 < h.length := by omega
    have hf := flat_get (h.map swp) (m / 4) (m % 4) (by simpa using hl) h4
    have hg := k.get (m / 4) (m % 4) hl h4
    rw [← e] at hf hg
    rw [Nat.zero_add, cell_at hh, hg, hf, if_pos hl]
    rw [show (h.map swp).getD (m / 4) z = swp (h.getD (m / 4) z) by simp [List.getD, hl]]⟩⟩
/-- The owner's lanes, the first j of them turned. -/
def lsF (v : Vw) (ql : Nat → Nat) (j i : Nat) : List Value := [.slice (some ⟨ql i, 0, none⟩) (v.lanes.getD i ln0).roots.length ((v.lanes.getD i ln0).roots.length + 2), .bool (if i < j then !(v.lanes.getD i ln0).sc else (v.lanes.getD i ln0).sc), .bool (v.lanes.getD i ln0).en]
structure FlS (v : Vw) (ql : Nat → Nat) (off j : Nat) (arr : Array Value) : Prop where
  get : ∀ i t, i < v.lanes.length → t < 3 → arr[off + (i * 3 + t)]? = (lsF v ql j i)[t]?
theorem FlS.next {v : Vw} {ql : Nat → Nat} {off j : Nat} {arr : Array Value} (k : FlS v ql off j arr) (hi : j < v.lanes.length) : FlS v ql off (j + 1) (arr.setIfInBounds (off + j * 3 + 1) (.bool (!(v.lanes.getD j ln0).sc))) := ⟨fun m t hm ht => by
  have hs3 : off + (j * 3 + 1) < arr.size := by
    have := k.get j 1 hi (by omega)
    rw [show (lsF v ql j j)[1]? = some (.bool (if j < j then !(v.lanes.getD j ln0).sc else (v.lanes.getD j ln0).sc)) from rfl] at this
    exact (Array.getElem?_eq_some_iff.1 this).1
  rw [Array.getElem?_setIfInBounds]
  by_cases e : m = j
  · subst e
    rcases (show t = 0 ∨ t = 1 ∨ t = 2 by omega) with rfl | rfl | rfl
    · rw [if_neg (by omega), k.get m 0 hm (by omega)]; rfl
    · rw [if_pos (by omega), if_pos (by omega)]
      show _ = some (Value.bool (if m < m + 1 then !(v.lanes.getD m ln0).sc else (v.lanes.getD m ln0).sc))
      rw [if_pos (by omega)]
    · rw [if_neg (by omega), k.get m 2 hm (by omega)]; rfl
  · rw [if_neg (by omega), k.get m t hm ht]
    unfold lsF
    by_cases e3 : m < j
    · rw [if_pos e3, if_pos (by omega)]
    · rw [if_neg e3, if_neg (by omega)]⟩
theorem lsV_get (v : Vw) (ql : Nat → Nat) (i t n : Nat) (hi : i < n) (ht : t < 3) : ((List.range n).flatMap (lsV v ql))[i * 3 + t]? = (lsV v ql i)[t]? := range_flat_get _ (fun _ => rfl) i t ht n hi
theorem FlS.start {v : Vw} {ql : Nat → Nat} {off : Nat} {arr : Array Value} (h : ∀ j, j < v.lanes.length * 3 → arr[off + j]? = ((List.range v.lanes.length).flatMap (lsV v ql))[j]?) : FlS v ql off 0 arr := ⟨fun i t hi ht => by
  rw [h (i * 3 + t) (by omega), lsV_get v ql i t _ hi ht]; rfl⟩
theorem vm_turned {w : World} {v : Vw} {qc qg qgl : Nat} {al : Option Addr} {cl : Nat} {ql : Nat → Nat} (hcs : RdF w (some ⟨qc, 0, none⟩) ((v.cells.map swp).length * 4) (flat (v.cells.map swp)) []) (hgr : LentIs w qg v.grey) (hgl : LentWs w qgl v.globals)
    (hls : v.lanes.length = 0 ∨ ∃ q off arr, al = some ⟨q, off, none⟩ ∧ w.heap[q]? = some (.cells arr 71 (0, 0)) ∧ FlS v ql off v.lanes.length arr) (hro : ∀ j, j < v.lanes.length → LentWs w (ql j) (v.lanes.getD j ln0).roots) : VM w (lva v qc qg qgl al cl ql) (turned v) := by
  have hll : (turned v).lanes.length = v.lanes.length := by simp [turned]
  have hgd : ∀ j, j < v.lanes.length → (turned v).lanes.getD j ln0 = flp (v.lanes.getD j ln0) := fun j hj => getD_map flp v.lanes ln0 ln0 j hj
  refine ⟨hcs, rdF_ofR (Gr.LentIs.rd hgr), rdF_ofR (Gr.LentWs.rd hgl), ⟨lanesV_len _ _, ?_⟩, fun j hj => ?_, by simp [lva, turned]⟩
  · rw [hll]
    rcases hls with h0 | ⟨q, off, arr, rfl, hh, hf⟩
    · left; omega
    · right
      refine ⟨q, off, rfl, by simp, fun j hj => ?_⟩
      have e : j = j / 3 * 3 + j % 3 := by omega
      have h3 : j % 3 < 3 := Nat.mod_lt _ (by omega)
      have hjl : j / 3 < v.lanes.length := by omega
      have hg := lanesV_get (lva v qc qg qgl (some ⟨q, off, none⟩) cl ql) (turned v) (j / 3) (j % 3) (by omega) h3
      have hq := hf.get (j / 3) (j % 3) hjl h3
      rw [← e] at hg hq
      rw [cell_at hh, hq, hg]
      unfold laneV lsF lva
      simp only [hgd _ hjl, flp, hjl, if_true]
  · rw [hll] at hj
    rw [hgd j hj]
    exact rdF_ofR (Gr.LentWs.rd (hro j hj))
/-- Where old blocks have been written, the owners' books begin anew. -/
theorem rebase {w0 w w' : World} {O : Nat → Nat} {T : List Nat} (h : G w0 w O) (hc : Ch T w w') : ∃ u : World, u.heap.size = w0.heap.size ∧ G u w' O ∧ ∀ x : World, Ch [] x w' → x.heap.size ≤ w0.heap.size → Ch [] x u := by
  have h1 := h.ch.size
  have h2 := hc.size
  have hs : (w'.heap.extract 0 w0.heap.size).size = w0.heap.size := by simp; omega
  have hb : ∀ k, k < w0.heap.size → (w'.heap.extract 0 w0.heap.size)[k]? = w'.heap[k]? := fun k hk => by
    rw [Array.getElem?_extract]
    rw [if_pos (by omega)]
    simp
  refine ⟨{ w' with heap := w'.heap.extract 0 w0.heap.size }, hs, ⟨⟨rfl, rfl, rfl, by show (w'.heap.extract 0 w0.heap.size).size ≤ _; omega, fun k hk _ => (hb k (by rw [← hs]; exact hk)).symm⟩, fun x hx => ?_⟩, fun x hx hxs => ⟨hx.os, hx.tape, hx.output, by show _ ≤ (w'.heap.extract 0 w0.heap.size).size; omega, fun k hk hn => (hb k (by omega)).trans (hx.block k hk hn)⟩⟩
  have := h.ow x hx
  refine ⟨?_, by omega⟩
  show (w'.heap.extract 0 w0.heap.size).size ≤ x
  omega
set_option maxHeartbeats 4000000 in
theorem BarrierViews_any (w : World) (a : VA) (v : Vw) (hv : VM w a v) (hg : VG v) (hc : VC a v) (hb : Bnd w) :
    Calls Tryd.prog 6 #[.agg (a.arr v)] w fun e w' => e = .returned (.bool true) ∧ Ch [] w w' := by
  obtain ⟨W, hW⟩ : ∃ W, W = w.alloc (.cells (a.arr v) 65) := ⟨_, rfl⟩
  have C0 : Ch [] w W := by rw [hW]; exact (Ch.refl _ _).alloc _
  have hbx : W.heap[w.heap.size]? = some (.cells (a.arr v) 65 (0, 0)) := by rw [hW]; exact heap_new w _
  have HBX := Lib.hid hbx
  have KX : Hid (∀ w1 : World, Ch [] W w1 → w1.cell? ⟨w.heap.size, 0, none⟩ = some (.slice a.ac v.cells.length a.cc) ∧ w1.cell? ⟨w.heap.size, 1, none⟩ = some (.int .u8 v.ph) ∧ w1.cell? ⟨w.heap.size, 2, none⟩ = some (.int .i64 v.sw) ∧ w1.cell? ⟨w.heap.size, 3, none⟩ = some (.slice a.ag v.grey.length a.cg) ∧ w1.cell? ⟨w.heap.size, 4, none⟩ = some (.slice a.agl v.globals.length a.cgl) ∧ w1.cell? ⟨w.heap.size, 5, none⟩ = some (.int .i64 v.laid) ∧ w1.cell? ⟨w.heap.size, 6, none⟩ = some (.slice a.al v.lanes.length a.cl)) := Lib.hid (fun w1 h1 => by
    have hh := h1.heap HBX.out (by simp)
    unfold VA.arr at hh
    exact ⟨cell_at hh, cell_at hh, cell_at hh, cell_at hh, cell_at hh, cell_at hh, cell_at hh⟩)
  have OF := ofView_any W a v (hv.ch C0) hc
  have HK := Lib.hid (fun (w1 : World) (h1 : Ch [] w w1) => known_any w1 (Bnd.ch hb h1 (by simp)))
  have HLE := Lib.hid (fun (w1 : World) (h1 : Ch [] w w1) (hr : VR v) => lent_any w1 a v (hv.ch h1) hr)
  have HV := Lib.hid hv
  have HGV := Lib.hid hg
  have HVC := Lib.hid hc
  have HB := Lib.hid hb
  have HC0 := Lib.hid C0
  have HAR : Hid (a.arr v = #[.slice a.ac v.cells.length a.cc, .int .u8 v.ph, .int .i64 v.sw, .slice a.ag v.grey.length a.cg, .slice a.agl v.globals.length a.cgl, .int .i64 v.laid, .slice a.al v.lanes.length a.cl]) := Lib.hid rfl
  rw [HAR.out] at hW OF ⊢
  obtain ⟨k0, k1, k2, k3, k4, k5, k6⟩ := KX.out W (Ch.refl _ _)
  clear hv hg hc hb hbx C0
  go_enter Tryd.func6, Tryd.ntmps6
  go_wp2_with fail
  rw [← hW]
  clear hW
  refine OF.mono ?_
  rintro e w2 ⟨⟨m, rfl, hm⟩, c2⟩
  have H2 := Lib.hid c2
  clear OF c2 k0 k1 k2 k3 k4 k5 k6
  by_cases hbig : 20000 < m
  · have hbI : (20000 : Int) < m := by omega
    go_wp2_with fail
    go_ret
    exact ⟨rfl, HC0.out.trans' H2.out⟩
  · have hbI : ¬ (20000 : Int) < m := by omega
    have HR := Lib.hid (HGV.out.vr (hm (by omega)))
    have K := HK.out w2 (HC0.out.trans' H2.out)
    clear hm hbig
    go_wp2_with fail
    refine K.mono ?_
    rintro e w3 ⟨rfl, c3⟩
    have H3 := Lib.hid (H2.out.trans' c3)
    clear K c3 H2
    obtain ⟨k0, k1, k2, k3, k4, k5, k6⟩ := KX.out w3 H3.out
    have L := HLE.out w3 (HC0.out.trans' H3.out) HR.out
    rw [HAR.out] at L
    go_wp2_with fail
    refine L.mono ?_
    rintro e w4 ⟨qc, qg, qgl, lv, lq, ql, rfl, hlv⟩
    obtain ⟨al, cl, rfl⟩ := hlv.slice
    have HLV := Lib.hid hlv
    have H4 := Lib.hid (H3.out.trans' hlv.ch)
    rw [lva_arr]
    have HXA : Hid ((lva v qc qg qgl al cl ql).arr v = #[.slice (some ⟨qc, 0, none⟩) v.cells.length (v.cells.length + 2), .int .u8 v.ph, .int .i64 v.sw, .slice (some ⟨qg, 0, none⟩) v.grey.length (v.grey.length + 2), .slice (some ⟨qgl, 0, none⟩) v.globals.length (v.globals.length + 2), .int .i64 v.laid, .slice al v.lanes.length cl]) := Lib.hid rfl
    have HTA : Hid ((lva v qc qg qgl al cl ql).arr (turned v) = #[.slice (some ⟨qc, 0, none⟩) v.cells.length (v.cells.length + 2), .int .u8 v.ph, .int .i64 v.sw, .slice (some ⟨qg, 0, none⟩) v.grey.length (v.grey.length + 2), .slice (some ⟨qgl, 0, none⟩) v.globals.length (v.globals.length + 2), .int .i64 v.laid, .slice al v.lanes.length cl]) := Lib.hid (by simp [lva, VA.arr, turned])
    rw [HXA.out]
    clear L hlv k0 k1 k2 k3 k4 k5 k6
    have C5 : Ch [] w4 (w4.alloc (.cells ((lva v qc qg qgl al cl ql).arr v) 65)) := (Ch.refl _ _).alloc _
    have HB5 := Lib.hid (heap_new w4 (.cells ((lva v qc qg qgl al cl ql).arr v) 65))
    have H5 := Lib.hid (H4.out.trans' C5)
    have HLV5 := Lib.hid (HLV.out.go C5)
    rw [HXA.out] at C5 HB5 H5 HLV5
    go_wp2_with fail
    have HQW : Hid (qgl < w4.heap.size) := Lib.hid (lt_of HLV.out.gl)
    have HLQ4 := Lib.hid HLV.out.lqb
    clear HLV
    obtain ⟨bx, hbxe⟩ : ∃ bx, bx = w4.heap.size := ⟨_, rfl⟩
    have HBE := Lib.hid hbxe
    rw [← hbxe] at HB5 ⊢
    obtain ⟨w5, hw5⟩ : ∃ w5, w5 = w4.alloc (.cells #[.slice (some ⟨qc, 0, none⟩) v.cells.length (v.cells.length + 2), .int .u8 v.ph, .int .i64 v.sw, .slice (some ⟨qg, 0, none⟩) v.grey.length (v.grey.length + 2), .slice (some ⟨qgl, 0, none⟩) v.globals.length (v.globals.length + 2), .int .i64 v.laid, .slice al v.lanes.length cl] 65) := ⟨_, rfl⟩
    have HW5 : Hid (w5.heap.size = bx + 1) := Lib.hid (by rw [hw5, World.size_alloc, hbxe])
    rw [← hw5] at HB5 H5 HLV5 ⊢
    have HBN := Lib.hid (Bkb.new (show G w5 w5 (fun _ => 0) from ⟨Ch.refl _ _, fun x hx => absurd rfl hx⟩))
    obtain ⟨bp, hbp⟩ : ∃ bp, bp = bx + 1 := ⟨_, rfl⟩
    have hbp2 : w5.heap.size = bp := by rw [hbp]; exact HW5.out
    rw [hbp2] at HBN
    rw [← hbp]
    have H3S : Hid (w.heap.size ≤ w3.heap.size) := Lib.hid (HC0.out.trans' H3.out).size
    clear hw5 hbxe hbp hbp2 C5 H4 H3
    have KY : Hid (∀ (w1 : World) (T : List Nat), Ch T w5 w1 → bx ∉ T → w1.cell? ⟨bx, 0, none⟩ = some (.slice (some ⟨qc, 0, none⟩) v.cells.length (v.cells.length + 2)) ∧ w1.cell? ⟨bx, 1, none⟩ = some (.int .u8 v.ph) ∧ w1.cell? ⟨bx, 2, none⟩ = some (.int .i64 v.sw) ∧ w1.cell? ⟨bx, 3, none⟩ = some (.slice (some ⟨qg, 0, none⟩) v.grey.length (v.grey.length + 2)) ∧ w1.cell? ⟨bx, 4, none⟩ = some (.slice (some ⟨qgl, 0, none⟩) v.globals.length (v.globals.length + 2)) ∧ w1.cell? ⟨bx, 5, none⟩ = some (.int .i64 v.laid) ∧ w1.cell? ⟨bx, 6, none⟩ = some (.slice al v.lanes.length cl)) := Lib.hid (fun w1 T h1 hT => by
      have hh := h1.heap HB5.out hT
      exact ⟨cell_at hh, cell_at hh, cell_at hh, cell_at hh, cell_at hh, cell_at hh, cell_at hh⟩)
    have HASK := Lib.hid (fun (w1 : World) (O : Nat → Nat) (k : Nat) (hg : G w5 w1 O) (hb : Bkb w1 O bp k) (hk : k ≤ 100) => show Calls _ _ #[.agg #[.slice (some ⟨qc, 0, none⟩) v.cells.length (v.cells.length + 2), .int .u8 v.ph, .int .i64 v.sw, .slice (some ⟨qg, 0, none⟩) v.grey.length (v.grey.length + 2), .slice (some ⟨qgl, 0, none⟩) v.globals.length (v.globals.length + 2), .int .i64 v.laid, .slice al v.lanes.length cl], .agg #[.slice a.ac v.cells.length a.cc, .int .u8 v.ph, .int .i64 v.sw, .slice a.ag v.grey.length a.cg, .slice a.agl v.globals.length a.cgl, .int .i64 v.laid, .slice a.al v.lanes.length a.cl], .pointer (some ⟨bp, 0, none⟩)] _ _ from asks_any hg hb hk (lva v qc qg qgl al cl ql) a v (HLV5.out.vm.ch hg.ch) (HV.out.ch (HC0.out.trans' (H5.out.trans' hg.ch))) HR.out (Bnd.ch HB.out (HC0.out.trans' (H5.out.trans' hg.ch)) (by simp)))
    have HWH := Lib.hid (fun (w1 : World) (h1 : Ch [] w5 w1) => show Calls _ _ #[.agg #[.slice (some ⟨qc, 0, none⟩) v.cells.length (v.cells.length + 2), .int .u8 v.ph, .int .i64 v.sw, .slice (some ⟨qg, 0, none⟩) v.grey.length (v.grey.length + 2), .slice (some ⟨qgl, 0, none⟩) v.globals.length (v.globals.length + 2), .int .i64 v.laid, .slice al v.lanes.length cl], .agg #[.slice a.ac v.cells.length a.cc, .int .u8 v.ph, .int .i64 v.sw, .slice a.ag v.grey.length a.cg, .slice a.agl v.globals.length a.cgl, .int .i64 v.laid, .slice a.al v.lanes.length a.cl]] _ _ from whole_any w1 w3 a v qc qg qgl al cl lq ql (HLV5.out.go h1) (HV.out.ch (HC0.out.trans' (H5.out.trans' h1))) HR.out HVC.out)
    go_loopw [6] (fun i wr => ∃ (k : Nat) (O : Nat → Nat), i = .int .i64 k ∧ k ≤ 2 ∧ G w5 wr O ∧ Bkb wr O bp (2 * k)) (fun i _ => 2 - (intOf i).toNat)
    case atStart => exact ⟨0, _, rfl, by omega, HBN.out.1, HBN.out.2⟩
    case round =>
      obtain ⟨k, O, rfl, hk, hgg, hbk⟩ := hrel
      have HG := Lib.hid hgg
      have HBK := Lib.hid hbk
      obtain ⟨k0, k1, k2, k3, k4, k5, k6⟩ := KX.out wr (H5.out.trans' hgg.ch)
      obtain ⟨y0, y1, y2, y3, y4, y5, y6⟩ := KY.out wr [] hgg.ch (by simp)
      clear HBN
      by_cases hlt : k < 2
      · as_aux_lemma =>
        have ltI : (k : Int) < 2 := by omega
        have A := HASK.out wr O (2 * k) hgg hbk (by omega)
        clear hgg hbk
        generalize v.cells.length = n at *
        generalize v.grey.length = gl at *
        generalize v.globals.length = ng at *
        generalize v.lanes.length = nl at *
        go_wp2_with fail
        refine A.mono ?_
        rintro e w6 ⟨rfl, O', g1, g2⟩
        have G1 := Lib.hid g1
        have G2 := Lib.hid g2
        clear A g1 g2 k0 k1 k2 k3 k4 k5 k6 y0 y1 y2 y3 y4 y5 y6
        go_wp2_with fail
        go_roundw
        case rel => exact ⟨k + 1, O', by go_num, by omega, G1.out, G2.out⟩
        case measure => simp [intOf]; omega
      · as_aux_lemma =>
        have ltI : ¬ (k : Int) < 2 := by omega
        have WH := HWH.out wr hgg.ch
        have HRZ : Hid (∀ x, O x ≠ 0 → w5.heap.size ≤ x) := Lib.hid (fun x hx => (HG.out.ow x hx).1)
        clear hgg hbk HASK HWH
        obtain ⟨n, hn⟩ : ∃ n, n = v.cells.length := ⟨_, rfl⟩
        have HN := Lib.hid hn
        obtain ⟨nl, hnl⟩ : ∃ nl, nl = v.lanes.length := ⟨_, rfl⟩
        have HNL := Lib.hid hnl
        have n1 := HR.out.n1
        have n4 := HR.out.n4
        rw [← hn] at k0 y0 WH KY n1 HTA ⊢
        rw [← hnl] at k6 y6 WH KY n4 HTA ⊢
        clear hn hnl
        generalize v.grey.length = gl at *
        generalize v.globals.length = ng at *
        go_wp2_with fail
        refine WH.mono ?_
        rintro e wd ⟨rfl, cd⟩
        have CD := Lib.hid (HG.out.ch.trans' cd)
        have KD := Lib.hid (HBK.out.ch cd)
        have HGD := Lib.hid (HG.out.step cd (by simp))
        clear WH cd k0 k1 k2 k3 k4 k5 k6 y0 y1 y2 y3 y4 y5 y6 HBK HG
        go_wp2_with fail
        go_loopw [9] (fun i wx => ∃ (j : Nat) (arr : Array Value), i = .int .i64 j ∧ j ≤ n ∧ wx.heap[qc]? = some (.cells arr 58 (0, 0)) ∧ SwS v.cells j arr ∧ Ch [qc] wd wx) (fun i _ => n - (intOf i).toNat)
        case atStart => exact ⟨0, _, rfl, by omega, CD.out.heap HLV5.out.c (by simp), SwS.start v.cells, Ch.refl _ _⟩
        case round =>
          obtain ⟨j, arr, rfl, hj, hh0, hrec, hcx⟩ := hrel
          have HA := Lib.hid hh0
          have HRC := Lib.hid hrec
          have HCX := Lib.hid hcx
          have HQB : Hid (bx ∉ [qc]) := Lib.hid (by have h1 := HLV5.out.lo; have h2 := HQW.out; have h3 := HBE.out; simp; omega)
          obtain ⟨y0, y1, y2, y3, y4, y5, y6⟩ := KY.out wr [qc] ((CD.out.mono (by simp)).trans' hcx) HQB.out
          by_cases hlt : j < n
          · have hjh : j < v.cells.length := by rw [← HN.out]; exact hlt
            have ltJ : (j : Int) < n := by omega
            have hA : ∀ t, t < 4 → wr.cell? ⟨qc, j * 4 + t, none⟩ = (celV (v.cells.getD j z))[t]? := fun t ht => by
              rw [cell_at hh0, hrec.get j t hjh ht, if_neg (by omega)]
            have d2 := hA 2 (by omega)
            have d3 := hA 3 (by omega)
            have f2 := free_at (i := j * 4 + 2) hh0
            have f3 := free_at (i := j * 4 + 3) hh0
            have NX := Lib.hid (hrec.next hjh)
            generalize v.cells.getD j z = x at *
            obtain ⟨xk, xc, xa, xb⟩ := x
            simp only at NX
            simp only [celV, List.getElem?_cons_zero, List.getElem?_cons_succ, Nat.add_zero] at d2 d3
            clear hh0 hrec hcx hjh hA y1 y2 y3 y4 y5 y6
            have hbq : bx ≠ qc := fun e => HQB.out (by simp [e])
            have hqb : qc ≠ bx := Ne.symm hbq
            go_wp2_with fail
            go_region
            all_goals
              go_wp2_with fail
              go_roundw
              case rel => exact ⟨j + 1, _, by go_num, by omega, heap_set (heap_set HA.out _) _, NX.out, ((HCX.out.setCell _ _ (.inl (by simp))).setCell _ _ (.inl (by simp))).drew⟩
              case measure => simp [intOf]; omega
          · as_aux_lemma =>
            obtain rfl : n = j := by omega
            have hsw : SwS v.cells v.cells.length arr := by rw [← HN.out]; exact hrec
            have HCEL := Lib.hid (fun (w1 : World) (h1 : w1.heap[qc]? = some (.cells arr 58 (0, 0))) => SwS.rd hsw h1)
            clear hh0 hrec hcx hsw HRC
            have HLOW := Lib.hid HLV5.out.lo
            have HQLB := Lib.hid HLV5.out.lqb
            have HQJ := Lib.hid HLV5.out.qlb
            have CW := Lib.hid ((CD.out.mono (S := []) (by simp)).trans' HCX.out)
            -- the lanes' row, as it lies
            have hls0 : nl = 0 ∨ ∃ q off arr, q ∈ lq ∧ al = some ⟨q, off, none⟩ ∧ wr.heap[q]? = some (.cells arr 71 (0, 0)) ∧ FlS v ql off 0 arr := by
              obtain ⟨hl, ao, cap, he, g1, g2, g3, g4⟩ := HLV5.out.row
              simp only [Value.slice.injEq, true_and] at he
              obtain ⟨rfl, -, rfl⟩ := he
              rcases g4 with g4 | ⟨q, off, arr', k1, k2, k3, k4, k5⟩
              · left; rw [HNL.out]; omega
              · right
                refine ⟨q, off, arr', k1, k2, CW.out.heap k3 (fun hm => ?_), FlS.start k5⟩
                simp at hm
                have := (HQLB.out q k1).1
                have := HLOW.out
                omega
            have HLS0 := Lib.hid hls0
            clear hls0
            go_wp2_with fail
            obtain ⟨wo, rfl⟩ : ∃ wo : World, wo = wr := ⟨_, rfl⟩
            go_loopw [10] (fun i wx => ∃ j : Nat, i = .int .i64 j ∧ j ≤ nl ∧ Ch lq wo wx ∧ (nl = 0 ∨ ∃ q off arr, q ∈ lq ∧ al = some ⟨q, off, none⟩ ∧ wx.heap[q]? = some (.cells arr 71 (0, 0)) ∧ FlS v ql off j arr)) (fun i _ => nl - (intOf i).toNat)
            case atStart => exact ⟨0, rfl, by omega, Ch.refl _ _, HLS0.out⟩
            case round =>
              obtain ⟨j, rfl, hj, hcx, hls⟩ := hrel
              have HCY := Lib.hid hcx
              have HBQ : Hid (bx ∉ [qc] ++ lq) := Lib.hid (by
                have h1 := HQB.out
                simp only [List.mem_append, not_or]
                refine ⟨h1, fun hm => ?_⟩
                have h2 := (HLQ4.out bx hm).2
                have h3 := HBE.out
                omega)
              have HCZ : Hid (Ch ([qc] ++ lq) w5 wr) := Lib.hid (((CD.out.mono (by simp)).trans' (HCX.out.mono (by simp))).trans' (hcx.mono (by simp; intro x hx; exact .inr hx)))
              obtain ⟨y0, y1, y2, y3, y4, y5, y6⟩ := KY.out wr _ HCZ.out HBQ.out
              by_cases hlt : j < nl
              · as_aux_lemma =>
                have ltJ : (j : Int) < nl := by omega
                have hjl : j < v.lanes.length := by rw [← HNL.out]; exact hlt
                obtain ⟨q, off, arr2, hq, hal, hh, hfl⟩ := hls.resolve_left (by omega)
                have HQ := Lib.hid hq
                have HAL := Lib.hid hal
                have HH := Lib.hid hh
                have NX := Lib.hid (hfl.next hjl)
                have d1 := (cell_at (i := off + (j * 3 + 1)) hh).trans (hfl.get j 1 hjl (by omega))
                have f1 := free_at (i := off + (j * 3 + 1)) hh
                rw [show (lsF v ql j j)[1]? = some (.bool (v.lanes.getD j ln0).sc) by show some (Value.bool (if j < j then _ else _)) = _; rw [if_neg (by omega)]] at d1
                rw [← Nat.add_assoc] at d1 f1
                rw [hal] at y6
                generalize (v.lanes.getD j ln0).sc = xs at *
                clear hls hal hh hfl hjl hcx hq y0 y1 y2 y3 y4 y5 HLS0
                have hbq : bx ≠ q := fun e => HBQ.out (by simp [e, HQ.out])
                have hqb : q ≠ bx := Ne.symm hbq
                go_wp2_with fail
                go_region
                all_goals
                  go_wp2_with fail
                  go_roundw
                  case rel => exact ⟨j + 1, by go_num, by omega, (HCY.out.setCell _ _ (.inl HQ.out)).drew, .inr ⟨q, off, _, HQ.out, HAL.out, heap_set HH.out _, NX.out⟩⟩
                  case measure => simp [intOf]; omega
              · as_aux_lemma =>
                obtain rfl : nl = j := by omega
                have ltJ : ¬ (nl : Int) < nl := by omega
                have CDR : Ch ([qc] ++ lq) wd wr := (HCX.out.mono (by simp)).trans' (hcx.mono (by simp; intro x hx; exact .inr hx))
                obtain ⟨u, hu1, hu2, hu3⟩ := rebase HGD.out CDR
                have CWR : Hid (Ch [] w wr) := Lib.hid ((HC0.out.trans' H5.out).trans HCZ.out (fun x hx => .inr (by
                  have h1 := HLOW.out
                  have h2 := H3S.out
                  simp only [List.mem_append, List.mem_singleton] at hx
                  rcases hx with rfl | hx
                  · omega
                  · have := (HQLB.out x hx).1
                    omega)))
                have hOz : ∀ x ∈ [qc] ++ lq, O x = 0 := fun x hx => Decidable.byContradiction fun hne => by
                  have h0 := HRZ.out x hne
                  have h1 := HW5.out
                  have h3 := HBE.out
                  have h4 := HQW.out
                  have h5 := HLOW.out
                  simp only [List.mem_append, List.mem_singleton] at hx
                  rcases hx with rfl | hx
                  · omega
                  · have := (HLQ4.out x hx).2
                    omega
                have KX2 := KD.out.keep CDR (Ext.refl O) (fun x hx => by rw [hOz x hx]; omega)
                have hni : ∀ x, qc < x → x ∉ lq → x ∉ [qc] ++ lq := fun x h1 h2 => by simp; exact ⟨by omega, h2⟩
                have hglq : qg ∉ lq := fun hm => by have h1 := (HQLB.out _ hm).1; have h2 := HLOW.out; omega
                have hgllq : qgl ∉ lq := fun hm => by have h1 := (HQLB.out _ hm).1; omega
                have hqlq : qc ∉ lq := fun hm => by have h1 := (HQLB.out _ hm).1; have h2 := HLOW.out; omega
                have VT := vm_turned (qc := qc) (qg := qg) (qgl := qgl) (al := al) (cl := cl) (ql := ql) (v := v) (HCEL.out wr (hcx.heap HA.out hqlq)) (HCZ.out.heap HLV5.out.g (hni _ (by have := HLOW.out; omega) hglq)) (HCZ.out.heap HLV5.out.gl (hni _ (by have := HLOW.out; omega) hgllq))
                  (by rw [← HNL.out]; exact hls.imp id fun ⟨q, off, arr, _, h1, h2, h3⟩ => ⟨q, off, arr, h1, h2, h3⟩) (fun j hj => HCZ.out.heap (HLV5.out.lent j hj) (hni _ (by have := HLOW.out; have := (HQJ.out j hj).1; omega) (HQJ.out j hj).2.2))
                have A := asks_any hu2 KX2 (k := 2 * k) (by omega) (lva v qc qg qgl al cl ql) (lva v qc qg qgl al cl ql) (turned v) VT VT (L13.VR.turned HR.out) (Bnd.ch HB.out CWR.out (by simp))
                rw [HTA.out] at A
                clear VT hls hcx hu2 KX2 hni CDR
                go_wp2_with fail
                refine A.mono ?_
                rintro e w9 ⟨rfl, O', g1, g2⟩
                have G1 := Lib.hid g1
                have CU := Lib.hid (hu3 w CWR.out (by have := H5.out.size; have := HC0.out.size; omega))
                have OW := Own_bkb g2 (by omega)
                clear A g1 g2 y0 y1 y2 y3 y4 y5 y6 hu3
                go_wp2_with fail
                refine OW.mono ?_
                rintro e w10 ⟨rfl, T, hT, hO⟩
                have HT := Lib.hid hT
                have HO := Lib.hid hO
                clear OW hT hO
                go_wp2_with fail
                go_ret
                exact ⟨rfl, (CU.out.trans' G1.out.ch).trans HT.out (fun x hx => .inr (by have h1 := (G1.out.ow x (by rw [HO.out x hx]; omega)).1; have := CU.out.size; omega))⟩
end Go.Proofs.YtlhhcocdhkbdnaaDoor.L13
