/- The walks of a deframer's small methods. -/
import Derived.Test.YtmollbnhndjjeaaBa
import Derived.Deep.RegionWith
import Derived.Laws.EntriesVeiled
import Derived.StillTailTactics
import Derived.Lib.Hide
namespace Go.Proofs.Ytmollbnhndjjeaa
open Go.RowKit

theorem store_func (W : World) (p i : Nat) (fn : Fn) (a b : Array Value) (m : Mode) (u : Value) (hc : W.cell? ⟨p, i, none⟩ = some u) (hf : W.frozen? ⟨p, i, none⟩ = false) :
    (store ⟨p, i, none⟩ (.func fn a b) m).run Try.prog W = .ok () (W.setCell ⟨p, i, none⟩ (.func fn a b)) := by
  rw [run_store _ _ _ _ _ rfl, hc]
  simp [hf]

set_option maxHeartbeats 400000 in
theorem outside_walk (W : World) (p : Nat) (o : Option Nat) (s : Df) (nv fv : Value) (vs : List Value) (fs : List (List Int)) (w : World) (h : Dn W w p o s nv fv vs fs) :
    Calls Try.prog 67 #[.pointer (some ⟨p, 0, none⟩)] w fun e w' => e = .returned (.tuple #[]) ∧ Dn W w' p o s.out (.slice none 0 0) fv vs fs := by
  have H := Lib.hid h
  obtain ⟨c0, c1, c2, c3, c4, c5, c6, c7, c8, fr⟩ := h.cells
  clear h
  have hmf : ∀ (fn : Fn) (first cap : Array Value) (w : World), (Instr.makeFunc fn first cap).run Try.prog w = .ok (.func fn first cap) w := fun _ _ _ _ => rfl
  go_enter Try.func67, Try.ntmps67
  go_wp2
  go_end0
  exact ⟨rfl, H.out.drop (((Kep.setCell _ _ _ _).trans (Kep.setCell _ _ _ _)).trans ((Kep.setCell _ _ _ _).trans (Kep.setCell _ _ _ _))) (Joins.block_setCell (Joins.block_setCell (Joins.block_setCell (Joins.block_setCell H.out.here _) _) _) _) rfl⟩

set_option maxHeartbeats 400000 in
theorem begin_walk (W : World) (p : Nat) (o : Option Nat) (s : Df) (nv fv : Value) (vs : List Value) (fs : List (List Int)) (w : World) (h : Dn W w p o s nv fv vs fs) :
    Calls Try.prog 71 #[.pointer (some ⟨p, 0, none⟩)] w fun e w' => e = .returned (.tuple #[]) ∧ Dn W w' p o s.beg (.slice none 0 0) fv vs fs := by
  have H := Lib.hid h
  obtain ⟨c0, c1, c2, c3, c4, c5, c6, c7, c8, fr⟩ := h.cells
  clear h
  have hmf : ∀ (fn : Fn) (first cap : Array Value) (w : World), (Instr.makeFunc fn first cap).run Try.prog w = .ok (.func fn first cap) w := fun _ _ _ _ => rfl
  go_enter Try.func71, Try.ntmps71
  go_wp2
  go_end0
  exact ⟨rfl, H.out.drop (((Kep.setCell _ _ _ _).trans (Kep.setCell _ _ _ _)).trans ((Kep.setCell _ _ _ _).trans (Kep.setCell _ _ _ _))) (Joins.block_setCell (Joins.block_setCell (Joins.block_setCell (Joins.block_setCell H.out.here _) _) _) _) rfl⟩

/-- A byte. -/
def Byt (c : Int) : Prop := 0 ≤ c ∧ c ≤ 255

set_option maxHeartbeats 400000 in
theorem skip_walk (W : World) (p : Nat) (o : Option Nat) (s : Df) (c : Int) (fs : List (List Int)) (w : World) (h : DnE W w p o s fs) (hc : Byt c) {N : Int} (ho : s.Ok N) (hN : N ≤ 1099511627776) :
    Calls Try.prog 70 #[.pointer (some ⟨p, 0, none⟩), .int .u8 c] w fun e w' => e = .returned (.tuple #[]) ∧ DnE W w' p o (s.skip c) fs := by
  obtain ⟨nv, fv, vs, h⟩ := h
  have H := Lib.hid h
  obtain ⟨c0, c1, c2, c3, c4, c5, c6, c7, c8, fr⟩ := h.cells
  clear h
  obtain ⟨hc0, hc1⟩ := hc
  have j0 := ho.j0
  have j1 := ho.j1
  clear ho
  by_cases e : c = 11
  · subst e
    go_enter Try.func70, Try.ntmps70
    go_wp2_with (go_at_call 71; refine (begin_walk _ _ _ _ _ _ _ _ _ H.out).mono ?_; rintro e w1 ⟨rfl, hb⟩)
    refine bodyPost_ret (results_none rfl _ _ _) rfl ?_

    exact ⟨rfl, by unfold Df.skip; rw [if_pos rfl]; exact ⟨_, _, _, hb⟩⟩
  · go_enter Try.func70, Try.ntmps70
    go_wp2_with fail
    go_end0
    exact ⟨rfl, by unfold Df.skip; rw [if_neg e]; exact ⟨_, _, _, H.out.put (Kep.setCell _ _ _ _) (Joins.block_setCell H.out.here _) rfl⟩⟩

section
variable (p : Nat) (s : Df) (nv fv : Value) (w : World)
set_option maxHeartbeats 400000 in
theorem junk_walk (h : DfCells w p s nv fv) : Calls Try.prog 48 #[.pointer (some ⟨p, 0, none⟩)] w fun e w' => e = .returned (.int .i64 s.junk) ∧ w = w' := by
  obtain ⟨c0, c1, c2, c3, c4, c5, c6, c7, c8, fr⟩ := h
  go_enter Try.func48, Try.ntmps48
  go_wp2
  go_ret
  exact ⟨rfl, rfl⟩
set_option maxHeartbeats 400000 in
theorem over_walk (h : DfCells w p s nv fv) : Calls Try.prog 49 #[.pointer (some ⟨p, 0, none⟩)] w fun e w' => e = .returned (.int .i64 s.over) ∧ w = w' := by
  obtain ⟨c0, c1, c2, c3, c4, c5, c6, c7, c8, fr⟩ := h
  go_enter Try.func49, Try.ntmps49
  go_wp2
  go_ret
  exact ⟨rfl, rfl⟩
set_option maxHeartbeats 400000 in
theorem broken_walk (h : DfCells w p s nv fv) : Calls Try.prog 50 #[.pointer (some ⟨p, 0, none⟩)] w fun e w' => e = .returned (.int .i64 s.broken) ∧ w = w' := by
  obtain ⟨c0, c1, c2, c3, c4, c5, c6, c7, c8, fr⟩ := h
  go_enter Try.func50, Try.ntmps50
  go_wp2
  go_ret
  exact ⟨rfl, rfl⟩
set_option maxHeartbeats 400000 in
theorem junk_nil : Calls Try.prog 48 #[.pointer none] w fun e w' => e = .returned (.int .i64 0) ∧ w = w' := by
  go_enter Try.func48, Try.ntmps48
  go_wp2
  go_ret
  exact ⟨rfl, rfl⟩
set_option maxHeartbeats 400000 in
theorem over_nil : Calls Try.prog 49 #[.pointer none] w fun e w' => e = .returned (.int .i64 0) ∧ w = w' := by
  go_enter Try.func49, Try.ntmps49
  go_wp2
  go_ret
  exact ⟨rfl, rfl⟩
set_option maxHeartbeats 400000 in
theorem broken_nil : Calls Try.prog 50 #[.pointer none] w fun e w' => e = .returned (.int .i64 0) ∧ w = w' := by
  go_enter Try.func50, Try.ntmps50
  go_wp2
  go_ret
  exact ⟨rfl, rfl⟩
set_option maxHeartbeats 400000 in
theorem held_nil : Calls Try.prog 47 #[.pointer none] w fun e w' => e = .returned (.int .i64 0) ∧ w = w' := by
  go_enter Try.func47, Try.ntmps47
  go_wp2
  go_ret
  exact ⟨rfl, rfl⟩
set_option maxHeartbeats 400000 in
theorem reset_nil : Calls Try.prog 51 #[.pointer none] w fun e w' => e = .returned (.tuple #[]) ∧ w = w' := by
  go_enter Try.func51, Try.ntmps51
  go_wp2
  go_end0
  exact ⟨rfl, rfl⟩
set_option maxHeartbeats 400000 in
theorem feed_nil (v : Value) : Calls Try.prog 45 #[.pointer none, v] w fun e w' => e = .returned (.tuple #[.slice none 0 0, .int .i64 1]) ∧ w = w' := by
  go_enter Try.func45, Try.ntmps45
  go_wp2
  go_ret2
  exact ⟨rfl, rfl⟩
set_option maxHeartbeats 400000 in
theorem held_walk (h : DfCells w p s nv fv) (hs : ∃ a cap, nv = .slice a s.now.length cap) (hl : (s.now.length : Int) ≤ 65536) : Calls Try.prog 47 #[.pointer (some ⟨p, 0, none⟩)] w fun e w' => e = .returned (.int .i64 s.held) ∧ w = w' := by
  obtain ⟨c0, c1, c2, c3, c4, c5, c6, c7, c8, fr⟩ := h
  obtain ⟨a, cap, rfl⟩ := hs
  cases hi : s.inn with
  | false =>
    rw [hi] at c2
    go_enter Try.func47, Try.ntmps47
    go_wp2
    go_ret
    exact ⟨by unfold Df.held; rw [hi]; rfl, rfl⟩
  | true =>
    rw [hi] at c2
    cases hf : s.fin with
    | false =>
      rw [hf] at c3
      go_enter Try.func47, Try.ntmps47
      go_wp2
      go_ret
      exact ⟨by unfold Df.held; rw [hi, hf]; rfl, rfl⟩
    | true =>
      rw [hf] at c3
      go_enter Try.func47, Try.ntmps47
      go_wp2
      go_ret
      exact ⟨by unfold Df.held; rw [hi, hf]; rfl, rfl⟩
end

/-- The bound that the statements give. -/
def mostOf (n : Int) : Int := 1 + (n % 18446744073709551616) % 200
theorem mostOf_range (n : Int) : 1 ≤ mostOf n ∧ mostOf n ≤ 200 := by unfold mostOf; omega
theorem most_eq (n : Int) : wrap64 (1 + wrap64 ((IntKind.u64.wrap n).tmod 200)) = mostOf n := by
  have e : IntKind.u64.wrap n = n % 18446744073709551616 := by rw [IntKind.wrap_u64]
  rw [e, Int.tmod_eq_emod_of_nonneg (by omega)]
  unfold mostOf wrap64
  omega
set_option maxHeartbeats 400000 in
theorem most_walk (n : Int) (w : World) (_ : -9223372036854775808 ≤ n) (_ : n ≤ 9223372036854775807) : Calls Try.prog 44 #[.int .i64 n] w fun e w' => e = .returned (.int .i64 (mostOf n)) ∧ w = w' := by
  have e := Lib.hid (most_eq n)
  go_enter Try.func44, Try.ntmps44
  go_wp2
  go_ret
  exact ⟨by rw [← e.out]; rfl, rfl⟩

set_option maxHeartbeats 400000 in
theorem dnew_bad (n : Int) (w : World) (h0 : -9223372036854775808 ≤ n) (h1 : n ≤ 9223372036854775807) (h : n < 1 ∨ 65536 < n) :
    Calls Try.prog 43 #[.int .i64 n] w fun e w' => e = .returned (.tuple #[.pointer none, .int .i64 3]) ∧ Below w.heap.size w w' := by
  rcases h with h | h
  · go_enter Try.func43, Try.ntmps43
    go_wp2
    go_ret2
    exact ⟨rfl, Below.refl _ _⟩
  · go_enter Try.func43, Try.ntmps43
    go_wp2
    go_ret2
    exact ⟨rfl, Below.refl _ _⟩
end Go.Proofs.Ytmollbnhndjjeaa
