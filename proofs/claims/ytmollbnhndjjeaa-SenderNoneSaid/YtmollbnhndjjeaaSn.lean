/- SenderNone: the walks of the methods of no sender; the statement's walk. -/
import Derived.Test.YtmollbnhndjjeaaSq
namespace Go.Proofs.Ytmollbnhndjjeaa
open Go.RowKit

set_option maxHeartbeats 400000 in
theorem nil_poll (w : World) : Calls Try.prog 28 #[.pointer none] w fun e w' => e = .returned (.tuple #[.int .i64 0, .bool false]) ∧ Below w.heap.size w w' := by
  go_enter Try.func28, Try.ntmps28
  go_wp2_with fail
  go_quiet (fail)
  go_wp2
  go_ret2
  exact ⟨rfl, Joins.below_draws _ _ _⟩
set_option maxHeartbeats 400000 in
theorem nil_flying (w : World) : Calls Try.prog 39 #[.pointer none] w fun e w' => e = .returned (.bool false) ∧ w = w' := by
  go_enter Try.func39, Try.ntmps39
  go_wp2
  go_ret
  exact ⟨rfl, rfl⟩
set_option maxHeartbeats 400000 in
theorem nil_drop (w : World) : Calls Try.prog 29 #[.pointer none] w fun e w' => e = .returned (.tuple #[]) ∧ w = w' := by
  go_enter Try.func29, Try.ntmps29
  go_wp2_with (go_at_call 39; refine (nil_flying _).mono ?_; rintro e w1 ⟨rfl, rfl⟩)
  go_end0
  exact ⟨rfl, rfl⟩
set_option maxHeartbeats 400000 in
theorem nil_offer (n : Int) (w : World) : Calls Try.prog 27 #[.pointer none, .int .i64 n] w fun e w' => e = .returned (.int .i64 1) ∧ w = w' := by
  go_enter Try.func27, Try.ntmps27
  go_wp2
  go_ret
  exact ⟨rfl, rfl⟩
set_option maxHeartbeats 400000 in
theorem nil_answer (ok : Bool) (w : World) : Calls Try.prog 33 #[.pointer none, .bool ok] w fun e w' => e = .returned (.bool false) ∧ w = w' := by
  go_enter Try.func33, Try.ntmps33
  go_wp2_with (go_at_call 39; refine (nil_flying _).mono ?_; rintro e w1 ⟨rfl, rfl⟩)
  go_ret
  exact ⟨rfl, rfl⟩
set_option maxHeartbeats 400000 in
theorem nil_tick (n : Int) (w : World) : Calls Try.prog 32 #[.pointer none, .int .i64 n] w fun e w' => e = .returned (.int .i64 1) ∧ w = w' := by
  go_enter Try.func32, Try.ntmps32
  go_wp2
  go_ret
  exact ⟨rfl, rfl⟩
set_option maxHeartbeats 400000 in
theorem nil_at (w : World) : Calls Try.prog 34 #[.pointer none] w fun e w' => e = .returned (.int .i64 0) ∧ w = w' := by
  go_enter Try.func34, Try.ntmps34
  go_wp2
  go_ret
  exact ⟨rfl, rfl⟩
set_option maxHeartbeats 400000 in
theorem nil_left (w : World) : Calls Try.prog 30 #[.pointer none] w fun e w' => e = .returned (.int .i64 0) ∧ w = w' := by
  go_enter Try.func30, Try.ntmps30
  go_wp2
  go_ret
  exact ⟨rfl, rfl⟩
set_option maxHeartbeats 400000 in
theorem nil_tries (w : World) : Calls Try.prog 31 #[.pointer none] w fun e w' => e = .returned (.int .i64 0) ∧ w = w' := by
  go_enter Try.func31, Try.ntmps31
  go_wp2
  go_ret
  exact ⟨rfl, rfl⟩

set_option maxRecDepth 100000 in
set_option maxHeartbeats 4000000 in
theorem none_walk (a b t p : Int) (w : World) (_ : -9223372036854775808 ≤ a) (_ : a ≤ 9223372036854775807) (_ : -9223372036854775808 ≤ b) (_ : b ≤ 9223372036854775807) (_ : -9223372036854775808 ≤ t) (_ : t ≤ 9223372036854775807) (_ : -9223372036854775808 ≤ p) (_ : p ≤ 9223372036854775807) :
    Calls Try.prog 16 #[.agg #[.int .i64 a, .int .i64 b, .int .i64 t], .int .i64 p] w fun e w' => e = .returned (.bool true) ∧ Below w.heap.size w w' := by
  go_enter Try.func16, Try.ntmps16
  go_wp2_with fail
  refine (nil_poll _).mono ?_
  rintro e w1 ⟨rfl, hb⟩
  have B1 : Below w.heap.size w w1 := ((Below.refl _ _).alloc (Nat.le_refl _) _).trans (hb.mono (by simp))
  have hs : w.heap.size < w1.heap.size := by have := hb.size; simp at this; omega
  have a0 := cells_one hb 0 _ rfl
  have a1 := cells_one hb 1 _ rfl
  have a2 := cells_one hb 2 _ rfl
  clear hb
  go_wp2_with (first | (go_at_call 29; refine (nil_drop _).mono ?_; rintro e w2 ⟨rfl, rfl⟩) | (go_at_call 27; refine (nil_offer _ _).mono ?_; rintro e w2 ⟨rfl, rfl⟩) | (go_at_call 33; refine (nil_answer _ _).mono ?_; rintro e w2 ⟨rfl, rfl⟩) | (go_at_call 32; refine (nil_tick _ _).mono ?_; rintro e w2 ⟨rfl, rfl⟩) | (go_at_call 34; refine (nil_at _).mono ?_; rintro e w2 ⟨rfl, rfl⟩) | (go_at_call 39; refine (nil_flying _).mono ?_; rintro e w2 ⟨rfl, rfl⟩) | (go_at_call 30; refine (nil_left _).mono ?_; rintro e w2 ⟨rfl, rfl⟩) | (go_at_call 31; refine (nil_tries _).mono ?_; rintro e w2 ⟨rfl, rfl⟩))
  have B2 : Below w.heap.size w (w1.alloc (.cells #[.int .i64 0, .int .i64 a, .int .i64 b, .int .i64 t, .float .f64 0] 28)) := B1.alloc B1.size _
  have C2 := CfgAt.new w1 0 a b t 0
  revert B2 C2
  generalize (w1.alloc (.cells #[.int .i64 0, .int .i64 a, .int .i64 b, .int .i64 t, .float .f64 0] 28)) = w2
  intro B2 C2
  have C2 := Lib.hid C2
  clear B1 a0 a1 a2 hs
  by_cases hF : (Cf.mk 0 a b t 0).Fair ∧ 0 ≤ p ∧ p ≤ 1099511627776
  · obtain ⟨hf, p0, p1⟩ := hF
    have F := Lib.hid hf
    clear hf
    refine (new_ok (Cf.mk 0 a b t 0) p _ F.out p0 p1).mono ?_
    rintro e w3 ⟨S, rfl, h0, B0, hS⟩
    have H0 := Lib.hid h0
    have B3 := below_call B2 B2.size B0
    have C3 := Lib.hid (C2.out.below B0)
    have hws : w.heap.size ≤ S := by have := B2.size; omega
    clear h0 B0 B2 C2 hS
    obtain ⟨-, c0, c1, c2, c3, c4⟩ := C3.out
    go_wp2_with fail
    refine (rnew_ok (Cf.mk 0 a b t 0) p _ F.out p0 p1).mono ?_
    rintro e w4 ⟨R, rfl, -, B0, -⟩
    have H1 := Lib.hid (H0.out.below B0)
    have B4 := below_call B3 B3.size B0
    clear B0 B3 H0 C3 c0 c1 c2 c3 c4
    go_wp2_with fail
    refine (alive16 _).mono ?_
    rintro e w5 ⟨rfl, hb⟩
    have H2 := Lib.hid (H1.out.below hb)
    have B5 := below_call B4 B4.size hb
    clear hb H1 B4
    go_wp2_with fail
    refine (at_walk _ _ _ _ H2.out).mono ?_
    rintro e w6 ⟨rfl, rfl⟩
    go_wp2_with fail
    refine (offer_walk _ _ _ _ _ H2.out).mono ?_
    rintro e w7 ⟨rfl, h1, k1⟩
    rw [offer_low (by show p - 1 < p; omega)] at h1
    rw [offerE_low (by show p - 1 < p; omega)]
    have H3 := Lib.hid h1
    have B6 := below_kept B5 B5.size k1 hws
    clear h1 k1 H2 B5
    go_wp2_with fail
    refine (left_walk _ _ _ _ H3.out).mono ?_
    rintro e w8 ⟨rfl, rfl⟩
    go_wp2_with fail
    go_ret
    exact ⟨rfl, B6⟩
  · have F := Lib.hid hF
    clear hF
    refine (new_bad (Cf.mk 0 a b t 0) p _ F.out).mono ?_
    rintro e w3 ⟨rfl, B0⟩
    have B3 := below_call B2 B2.size B0
    have C3 := Lib.hid (C2.out.below B0)
    clear B0 B2 C2
    obtain ⟨-, c0, c1, c2, c3, c4⟩ := C3.out
    go_wp2_with fail
    refine (rnew_bad (Cf.mk 0 a b t 0) p _ F.out).mono ?_
    rintro e w4 ⟨rfl, B0⟩
    have B4 := below_call B3 B3.size B0
    clear B0 B3 C3 c0 c1 c2 c3 c4
    go_wp2_with fail
    refine (alive16 _).mono ?_
    rintro e w5 ⟨rfl, hb⟩
    have B5 := below_call B4 B4.size hb
    clear hb B4
    go_wp2_with fail
    go_ret
    exact ⟨rfl, B5⟩
end Go.Proofs.Ytmollbnhndjjeaa
