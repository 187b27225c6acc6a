/- DelaySteps: the walk. -/
import Derived.Test.YtmollbnhndjjeaaDu
namespace Go.Proofs.Ytmollbnhndjjeaa
open Go.RowKit Fl

set_option maxRecDepth 100000 in
set_option maxHeartbeats 1000000 in
theorem steps_walk (base f k : Int) (w : World) (hb0 : 0 ≤ base) (hb1 : base ≤ 65535) (hf0 : 0 ≤ f) (hf1 : f ≤ 255) (hk0 : 0 ≤ k) (hk1 : k ≤ 255) :
    Calls Try.prog 5 #[.int .u16 base, .int .u8 f, .int .u8 k] w fun e w' => e = .returned (.bool true) ∧ Below w.heap.size w w' := by
  have hF : Is (floatOfInt .f64 (1 + f % 9)) (1 + f % 9).toNat := fl_is _ (by omega) (by omega)
  have hst := nx_step (base := base) (cap := 1099511627776) (fw := floatOfInt .f64 (1 + f % 9)) (f := (1 + f % 9).toNat) (k := k % 60) hb0 (by omega) (by omega) (by omega) hF (by omega) (by omega) (by omega)
  have hr := nx_range (base := base) (cap := 1099511627776) (fw := floatOfInt .f64 (1 + f % 9)) (k := k % 60) (by omega) (by omega)
  have hr2 := nx_range (base := base) (cap := 1099511627776) (fw := floatOfInt .f64 (1 + f % 9)) (k := k % 60 + 1) (by omega) (by omega)
  obtain ⟨A, hA⟩ : ∃ A, nx base 1099511627776 (floatOfInt .f64 (1 + f % 9)) (k % 60) = A := ⟨_, rfl⟩
  obtain ⟨B, hB⟩ : ∃ B, nx base 1099511627776 (floatOfInt .f64 (1 + f % 9)) (k % 60 + 1) = B := ⟨_, rfl⟩
  rw [hA, hB] at hst
  rw [hA] at hr
  rw [hB] at hr2
  obtain ⟨hA0, hA1⟩ := hr
  obtain ⟨hB0, hB1⟩ := hr2
  have e9 : ((1 + f % 9).toNat : Int) = 1 + f % 9 := by omega
  rw [e9] at hst
  have p0 : 0 ≤ A * (1 + f % 9) := Int.mul_nonneg hA0 (by omega)
  have p1 : A * (1 + f % 9) ≤ 9895604649984 := by
    have h1 : A * (1 + f % 9) ≤ A * 9 := Int.mul_le_mul_of_nonneg_left (by omega) hA0
    omega
  have HA := Lib.hid hA
  have HB := Lib.hid hB
  have ST := Lib.hid hst
  clear hst hF hA hB e9
  go_enter Try.func5, Try.ntmps5
  go_wp2_with fail
  refine (next_ok _ _ _ _ _ _ _ ⟨by omega, by omega, by omega, by omega, by omega⟩).mono ?_
  rintro e w1 ⟨rfl, hb⟩
  rw [HA.out]
  have C1 := (CfgAt.new w 0 base 1099511627776 0 (floatOfInt .f64 (1 + f % 9))).below hb
  have S1 := below_one hb
  clear hb
  obtain ⟨-, c0, c1, c2, c3, c4⟩ := id C1
  have C1 := Lib.hid C1
  go_wp2_with fail
  refine (next_ok _ _ _ _ _ _ _ ⟨by omega, by omega, by omega, by omega, by omega⟩).mono ?_
  rintro e w2 ⟨rfl, hb⟩
  rw [HB.out]
  clear c0 c1 c2 c3 c4
  obtain ⟨-, c0, c1, c2, c3, c4⟩ := C1.out.below hb
  have S2 := below_call S1.1 S1.1.size hb
  clear hb C1 S1
  by_cases hlt : A < 1099511627776
  · rcases Int.lt_or_le 1099511627776 (A * (1 + f % 9)) with hl | hl
    · have t : (B == 1099511627776) = true := by simp; rw [ST.out, if_pos hlt]; omega
      go_wp2_with (go_at_call 21; refine (alive12 _).mono ?_; rintro e w3 ⟨rfl, hb3⟩)
      go_ret
      exact ⟨rfl, below_call S2 S2.size hb3⟩
    · have t : (B == A * (1 + f % 9)) = true := by simp; rw [ST.out, if_pos hlt]; omega
      go_wp2_with (go_at_call 21; refine (alive12 _).mono ?_; rintro e w3 ⟨rfl, hb3⟩)
      go_ret
      exact ⟨rfl, below_call S2 S2.size hb3⟩
  · have t : (B == A) = true := by simp; rw [ST.out, if_neg hlt]
    go_wp2_with (go_at_call 21; refine (alive12 _).mono ?_; rintro e w3 ⟨rfl, hb3⟩)
    go_ret
    exact ⟨rfl, below_call S2 S2.size hb3⟩
end Go.Proofs.Ytmollbnhndjjeaa
