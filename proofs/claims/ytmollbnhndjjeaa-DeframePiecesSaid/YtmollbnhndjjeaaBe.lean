/- The walks of New, of same, and of layer 5's example. -/
import Derived.Test.YtmollbnhndjjeaaBd
namespace Go.Proofs.Ytmollbnhndjjeaa
open Go.RowKit

set_option maxHeartbeats 400000 in
theorem outside_new (p : Nat) (m : Int) (w : World) (h : w.heap[p]? = some (.cells #[.int .i64 m, .nilFunc, .bool false, .bool false, .slice none 0 0, .slice none 0 0, .int .i64 0, .int .i64 0, .int .i64 0] 96 (0, 0))) :
    Calls Try.prog 67 #[.pointer (some ⟨p, 0, none⟩)] w fun e w' => e = .returned (.tuple #[]) ∧ Rest w' p (Df.new m) (.slice none 0 0) ∧ Kep p w w' := by
  have H := Lib.hid h
  have c1 : w.cell? ⟨p, 1, none⟩ = some .nilFunc := Joins.cell_of_block h _
  have c2 : w.cell? ⟨p, 2, none⟩ = some (.bool false) := Joins.cell_of_block h _
  have c3 : w.cell? ⟨p, 3, none⟩ = some (.bool false) := Joins.cell_of_block h _
  have c4 : w.cell? ⟨p, 4, none⟩ = some (.slice none 0 0) := Joins.cell_of_block h _
  have fr : ∀ i, w.frozen? ⟨p, i, none⟩ = false := Joins.unfrozen_of_block h
  clear h
  have hmf : ∀ (fn : Fn) (first cap : Array Value) (w : World), (Instr.makeFunc fn first cap).run Try.prog w = .ok (.func fn first cap) w := fun _ _ _ _ => rfl
  go_enter Try.func67, Try.ntmps67
  go_wp2
  go_end0
  exact ⟨rfl, ⟨Joins.block_setCell (Joins.block_setCell (Joins.block_setCell (Joins.block_setCell H.out _) _) _) _, World.ownsRow_nil _ _ _ _⟩, ((Kep.setCell _ _ _ _).trans (Kep.setCell _ _ _ _)).trans ((Kep.setCell _ _ _ _).trans (Kep.setCell _ _ _ _))⟩

/-- A new deframer, beyond all that was there. -/
def NewDf (m : Int) (w : World) (e : Ending) (w' : World) : Prop :=
  ∃ p, e = .returned (.tuple #[.pointer (some ⟨p, 0, none⟩), .int .i64 0]) ∧ Rest w' p (Df.new m) (.slice none 0 0) ∧ Below w.heap.size w w' ∧ w.heap.size ≤ p ∧ p < w'.heap.size

set_option maxHeartbeats 1000000 in
theorem dnew_ok (m : Int) (w : World) (h0 : 1 ≤ m) (h1 : m ≤ 65536) : Calls Try.prog 43 #[.int .i64 m] w (NewDf m w) := by
  have H := Lib.hid (heap_alloc_new w (.cells #[.int .i64 m, .nilFunc, .bool false, .bool false, .slice none 0 0, .slice none 0 0, .int .i64 0, .int .i64 0, .int .i64 0] 96))
  go_enter Try.func43, Try.ntmps43
  go_wp2_with (go_at_call 67; refine (outside_new _ _ _ H.out).mono ?_; rintro e w1 ⟨rfl, hr, hk⟩)
  go_ret2
  refine ⟨_, rfl, hr, ?_, Nat.le_refl _, blk_lt hr.1⟩
  have hs := hk.size
  simp at hs
  exact ⟨hk.os, hk.tape, hk.output, by omega, fun k hlt => (hk.block k (by simp; omega) (by omega)).trans (heap_alloc_old w _ hlt)⟩

theorem elem_conv {w : World} {B : Nat} {v : Value} {f : List Int} (h : w.ownsRow B 5 1 v f.length (enc f)) :
    ∃ a cap, v = .slice a f.length cap ∧ ∀ wq : World, wq.heap = w.heap → (convert 53 9 (.slice a f.length cap)).run Try.prog wq = .ok (.string (strOfNums f)) wq := by
  rcases h.2 with ⟨rfl, h0⟩ | ⟨g, cap, cur, rfl, hb, hg, hrest⟩
  · have e : f = [] := List.eq_nil_of_length_eq_zero h0
    subst e
    exact ⟨_, _, rfl, fun wq _ => run_convert_bytes_nil wq 53 5 Try.underlying53 Try.underlying5 _ _ 9 Try.underlying9⟩
  · refine ⟨_, _, rfl, fun wq hq => run_convert_bytes_arg wq 53 5 Try.underlying53 Try.underlying5 g 0 _ _ f rfl (fun i hi => ?_) 9 Try.underlying9⟩
    have hc := own_cells h i (.int .u8 (f.getD i 0)) (by simp [enc, List.getElem?_map, List.getElem?_eq_getElem hi, List.getD_eq_getElem?_getD])
    have ha : (⟨g, 0, none⟩ : Addr).add i = ⟨g, 0 + i, none⟩ := by unfold Addr.add; split <;> simp_all
    rw [ha] at hc
    unfold World.cell? at hc ⊢
    rw [hq]
    exact hc

set_option maxRecDepth 100000 in
set_option maxHeartbeats 2000000 in
theorem same_walk (gv hv : Value) (vs us : List Value) (fs : List (List Int)) (B1 B2 B3 B4 : Nat) (w : World) (hg : w.ownsRow B1 53 1 gv vs.length vs) (hh : w.ownsRow B2 53 1 hv us.length us) (eg : Each B3 w vs fs) (eh : Each B4 w us fs) (hl : fs.length ≤ 68719476736) :
    Calls Try.prog 46 #[gv, hv] w fun e w' => e = .returned (.bool true) ∧ Below w.heap.size w w' := by
  have l1 := eg.len
  have l2 := eh.len
  have HG := Lib.hid hg
  have HH := Lib.hid hh
  have EG := Lib.hid eg
  have EH := Lib.hid eh
  obtain ⟨a1, k1, rfl⟩ := own_slice hg
  obtain ⟨a2, k2, rfl⟩ := own_slice hh
  clear hg hh eg eh
  go_enter Try.func46, Try.ntmps46
  go_wp2_with fail
  go_loopw [13] (fun i wr => ∃ n : Nat, n ≤ fs.length ∧ i = .int .i64 n ∧ Below w.heap.size w wr ∧ wr.heap = w.heap) (fun i _ => fs.length + 1 - (intOf i).toNat)
  case atStart => exact ⟨0, Nat.zero_le _, rfl, Below.refl _ _, rfl⟩
  case round =>
    obtain ⟨n, hn, rfl, hb, hw⟩ := hrel
    have HB := Lib.hid hb
    have HW := Lib.hid hw
    clear hb hw
    by_cases hnL : n < fs.length
    · obtain ⟨x1, y1, e1, q1⟩ := elem_conv (EG.out.at n hnL (by omega))
      obtain ⟨x2, y2, e2, q2⟩ := elem_conv (EH.out.at n hnL (by omega))
      obtain ⟨g1, cap1, f1, -, -⟩ := HG.out.form (by omega)
      obtain ⟨g2, cap2, f2, -, -⟩ := HH.out.form (by omega)
      cases f1
      cases f2
      have cell1 : wr.cell? ⟨g1, n, none⟩ = some (.slice x1 fs[n].length y1) := by
        have hc := HG.out.cells (g := g1) rfl n _ (List.getElem?_eq_getElem (by omega))
        have ha : (⟨g1, 0, none⟩ : Addr).add n = ⟨g1, n, none⟩ := by unfold Addr.add; split <;> simp_all
        rw [ha, e1] at hc
        unfold World.cell? at hc ⊢
        rw [HW.out]
        exact hc
      have cell2 : wr.cell? ⟨g2, n, none⟩ = some (.slice x2 fs[n].length y2) := by
        have hc := HH.out.cells (g := g2) rfl n _ (List.getElem?_eq_getElem (by omega))
        have ha : (⟨g2, 0, none⟩ : Addr).add n = ⟨g2, n, none⟩ := by unfold Addr.add; split <;> simp_all
        rw [ha, e2] at hc
        unfold World.cell? at hc ⊢
        rw [HW.out]
        exact hc
      have v1 := q1 wr.drew HW.out
      have v2 := q2 wr.drew HW.out
      clear q1 q2 e1 e2
      go_wp2_with fail
      go_region
      all_goals
        go_wp2_with fail
        go_roundw
        case rel => exact ⟨n + 1, hnL, by go_num, HB.out.drew, HW.out⟩
        case measure => simp [intOf]; omega
    · have e : n = fs.length := by omega
      subst e
      rw [l1, l2] at *
      go_wp2_with fail
      go_ret
      exact ⟨rfl, HB.out⟩
end Go.Proofs.Ytmollbnhndjjeaa
