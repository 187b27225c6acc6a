/- The walks of what a factor is: math.IsNaN, IsInf, Signbit; delay.Kind; the reference's Kind. -/
import Derived.Test.YtmollbnhndjjeaaFk
import Derived.Test.YtmollbnhndjjeaaDb
namespace Go.Proofs.Ytmollbnhndjjeaa
open Go.RowKit Fl

theorem tobits (b : Nat) (w : World) : (callFunc 66 #[.float .f64 b]).run Try.prog w = .ok (.value (.int .u64 b)) w := by
  rw [run_callFunc_extern Try.func66 (by kernel_rfl) (by kernel_rfl) (by kernel_rfl) (e := Extern.MathFloatBits.float64bits) (by kernel_rfl)]
  rfl

set_option maxHeartbeats 400000 in
theorem isnan_walk (f : Nat) (w : World) : Calls Try.prog 63 #[.float .f64 f] w fun e w' => e = .returned (.bool (decide (inf < rg f))) ∧ w = w' := by
  have h := self_eq f
  have H := Lib.hid h
  clear h
  go_enter Try.func63, Try.ntmps63
  go_wp2
  go_ret
  refine ⟨?_, rfl⟩
  show Ending.returned (.bool (FloatKind.f64.format.order f f != some Ordering.eq)) = _
  unfold bne
  rw [H.out, Bool.not_not]
set_option maxHeartbeats 400000 in
theorem isinf1_walk (f : Nat) (w : World) : Calls Try.prog 64 #[.float .f64 f, .int .i64 1] w fun e w' => e = .returned (.bool (decide (rg f = inf) && !sg f)) ∧ w = w' := by
  have H := Lib.hid (gt_max f)
  go_enter Try.func64, Try.ntmps64
  go_wp2
  go_ret
  refine ⟨?_, rfl⟩
  show Ending.returned (.bool (FloatKind.f64.format.order f 9218868437227405311 == some Ordering.gt)) = _
  rw [H.out]
set_option maxHeartbeats 400000 in
theorem isinfm_walk (f : Nat) (w : World) : Calls Try.prog 64 #[.float .f64 f, .int .i64 (-1)] w fun e w' => e = .returned (.bool (decide (rg f = inf) && sg f)) ∧ w = w' := by
  have hneg : ∀ (x : Nat) (w : World), (Op.unary .neg (.float .f64 x)).run Try.prog w = .ok (.float .f64 (Op.negFloat .f64 x)) w := fun _ _ => rfl
  obtain ⟨n1, n2⟩ := neg_facts f
  have H := gt_max (Op.negFloat .f64 f)
  rw [n1, n2, Bool.not_not] at H
  clear n1 n2
  go_enter Try.func64, Try.ntmps64
  go_wp2
  go_ret
  exact ⟨rfl, rfl⟩
set_option maxHeartbeats 400000 in
theorem signbit_walk (f : Nat) (w : World) (hf : f < 18446744073709551616) : Calls Try.prog 65 #[.float .f64 f] w fun e w' => e = .returned (.bool (sg f)) ∧ w = w' := by
  have tb := tobits
  have hs : decide (wrap64 (f : Int) < 0) = sg f := by
    unfold wrap64 sg
    by_cases h : f < 9223372036854775808
    · have e : f / 9223372036854775808 = 0 := by omega
      rw [e, decide_eq_false (by omega)]; rfl
    · have e : f / 9223372036854775808 = 1 := by omega
      rw [e, decide_eq_true (by omega)]; rfl
  have H := Lib.hid hs
  clear hs
  go_enter Try.func65, Try.ntmps65
  go_wp2
  go_ret
  refine ⟨?_, rfl⟩
  show Ending.returned (.bool (decide (wrap64 (f : Int) < 0))) = _
  rw [H.out]

set_option maxHeartbeats 1000000 in
theorem kind_walk (f : Nat) (w : World) (hf : f < 18446744073709551616) : Calls Try.prog 37 #[.float .f64 f] w fun e w' => e = .returned (.int .i64 (kd f)) ∧ w = w' := by
  have hz := eq_zero f
  have HF := Lib.hid hf
  have hi : inf ≠ 0 := by decide
  by_cases h1 : inf < rg f
  · have k : kd f = 0 := by unfold kd; rw [if_pos h1]
    have K := Lib.hid k
    have q1 : decide (inf < rg f) = true := decide_eq_true h1
    clear h1 hz k hf hi
    go_enter Try.func37, Try.ntmps37
    go_wp2_with fail
    refine (isnan_walk _ _).mono ?_
    rintro e w1 ⟨rfl, rfl⟩
    rw [q1]
    go_wp2_with fail
    go_ret
    exact ⟨by rw [K.out]; rfl, rfl⟩
  · have q1 : decide (inf < rg f) = false := decide_eq_false h1
    by_cases h2 : rg f = inf
    · have q2 : decide (rg f = inf) = true := decide_eq_true h2
      cases hs : sg f with
      | false =>
        have k : kd f = 1 := by unfold kd; rw [if_neg h1, if_pos h2, hs]; rfl
        have K := Lib.hid k
        have HS := Lib.hid hs
        clear h1 h2 hz k hf hi hs
        go_enter Try.func37, Try.ntmps37
        go_wp2_with fail
        refine (isnan_walk _ _).mono ?_
        rintro e w1 ⟨rfl, rfl⟩
        rw [q1]
        go_wp2_with fail
        refine (isinf1_walk _ _).mono ?_
        rintro e w1 ⟨rfl, rfl⟩
        rw [q2, HS.out]
        go_wp2_with fail
        go_ret
        exact ⟨by rw [K.out]; rfl, rfl⟩
      | true =>
        have k : kd f = 2 := by unfold kd; rw [if_neg h1, if_pos h2, hs]; rfl
        have K := Lib.hid k
        have HS := Lib.hid hs
        clear h1 h2 hz k hf hi hs
        go_enter Try.func37, Try.ntmps37
        go_wp2_with fail
        refine (isnan_walk _ _).mono ?_
        rintro e w1 ⟨rfl, rfl⟩
        rw [q1]
        go_wp2_with fail
        refine (isinf1_walk _ _).mono ?_
        rintro e w1 ⟨rfl, rfl⟩
        rw [q2, HS.out]
        go_wp2_with fail
        refine (isinfm_walk _ _).mono ?_
        rintro e w1 ⟨rfl, rfl⟩
        rw [q2, HS.out]
        go_wp2_with fail
        go_ret
        exact ⟨by rw [K.out]; rfl, rfl⟩
    · have q2 : decide (rg f = inf) = false := decide_eq_false h2
      by_cases h3 : rg f = 0
      · rw [decide_eq_true h3] at hz
        have k : kd f = if sg f then 4 else 3 := by unfold kd; rw [if_neg h1, if_neg h2, if_pos h3]
        cases hs : sg f with
        | true =>
          rw [hs] at k
          have K := Lib.hid k
          have HS := Lib.hid hs
          clear h1 h2 h3 k hf hi hs
          go_enter Try.func37, Try.ntmps37
          go_wp2_with fail
          refine (isnan_walk _ _).mono ?_
          rintro e w1 ⟨rfl, rfl⟩
          rw [q1]
          go_wp2_with fail
          refine (isinf1_walk _ _).mono ?_
          rintro e w1 ⟨rfl, rfl⟩
          rw [q2, Bool.false_and]
          go_wp2_with fail
          refine (isinfm_walk _ _).mono ?_
          rintro e w1 ⟨rfl, rfl⟩
          rw [q2, Bool.false_and]
          go_wp2_with fail
          refine (signbit_walk _ _ HF.out).mono ?_
          rintro e w1 ⟨rfl, rfl⟩
          rw [HS.out]
          go_wp2_with fail
          go_ret
          exact ⟨by rw [K.out]; rfl, rfl⟩
        | false =>
          rw [hs] at k
          have K := Lib.hid k
          have HS := Lib.hid hs
          clear h1 h2 h3 k hf hi hs
          go_enter Try.func37, Try.ntmps37
          go_wp2_with fail
          refine (isnan_walk _ _).mono ?_
          rintro e w1 ⟨rfl, rfl⟩
          rw [q1]
          go_wp2_with fail
          refine (isinf1_walk _ _).mono ?_
          rintro e w1 ⟨rfl, rfl⟩
          rw [q2, Bool.false_and]
          go_wp2_with fail
          refine (isinfm_walk _ _).mono ?_
          rintro e w1 ⟨rfl, rfl⟩
          rw [q2, Bool.false_and]
          go_wp2_with fail
          refine (signbit_walk _ _ HF.out).mono ?_
          rintro e w1 ⟨rfl, rfl⟩
          rw [HS.out]
          go_wp2_with fail
          go_ret
          exact ⟨by rw [K.out]; rfl, rfl⟩
      · rw [decide_eq_false h3] at hz
        have k : kd f = if sg f then 5 else 6 := by unfold kd; rw [if_neg h1, if_neg h2, if_neg h3]
        cases hs : sg f with
        | true =>
          rw [hs] at k
          have K := Lib.hid k
          have HS := Lib.hid hs
          clear h1 h2 h3 k hf hi hs
          go_enter Try.func37, Try.ntmps37
          go_wp2_with fail
          refine (isnan_walk _ _).mono ?_
          rintro e w1 ⟨rfl, rfl⟩
          rw [q1]
          go_wp2_with fail
          refine (isinf1_walk _ _).mono ?_
          rintro e w1 ⟨rfl, rfl⟩
          rw [q2, Bool.false_and]
          go_wp2_with fail
          refine (isinfm_walk _ _).mono ?_
          rintro e w1 ⟨rfl, rfl⟩
          rw [q2, Bool.false_and]
          go_wp2_with fail
          refine (signbit_walk _ _ HF.out).mono ?_
          rintro e w1 ⟨rfl, rfl⟩
          rw [HS.out]
          go_wp2_with fail
          go_ret
          exact ⟨by rw [K.out]; rfl, rfl⟩
        | false =>
          rw [hs] at k
          have K := Lib.hid k
          have HS := Lib.hid hs
          clear h1 h2 h3 k hf hi hs
          go_enter Try.func37, Try.ntmps37
          go_wp2_with fail
          refine (isnan_walk _ _).mono ?_
          rintro e w1 ⟨rfl, rfl⟩
          rw [q1]
          go_wp2_with fail
          refine (isinf1_walk _ _).mono ?_
          rintro e w1 ⟨rfl, rfl⟩
          rw [q2, Bool.false_and]
          go_wp2_with fail
          refine (isinfm_walk _ _).mono ?_
          rintro e w1 ⟨rfl, rfl⟩
          rw [q2, Bool.false_and]
          go_wp2_with fail
          refine (signbit_walk _ _ HF.out).mono ?_
          rintro e w1 ⟨rfl, rfl⟩
          rw [HS.out]
          go_wp2_with fail
          go_ret
          exact ⟨by rw [K.out]; rfl, rfl⟩

theorem run_div_some (t : TypeId) (D y : Nat) (h : divF D 4611686018427387904 = some y) (w : World) : (binOp .quo t (.float .f64 D) (.float .f64 4611686018427387904)).run Try.prog w = .ok (.float .f64 y) w :=
  run_float_arith w .quo t .f64 D 4611686018427387904 y h

set_option maxHeartbeats 1000000 in
theorem rkind_walk (f : Nat) (w : World) (hf : f < 18446744073709551616) : Calls Try.prog 38 #[.float .f64 f] w fun e w' => e = .returned (.int .i64 (kd f)) ∧ w = w' := by
  have hz := eq_zero f
  have hn := self_eq f
  have tb := tobits
  have hi : inf ≠ 0 := by decide
  by_cases h1 : inf < rg f
  · have k : kd f = 0 := by unfold kd; rw [if_pos h1]
    have K := Lib.hid k
    rw [decide_eq_true h1] at hn
    have hn2 : (FloatKind.f64.format.order f f != some Ordering.eq) = true := by unfold bne; rw [hn]; rfl
    clear h1 hz k hf hi hn
    go_enter Try.func38, Try.ntmps38
    go_wp2
    go_ret
    exact ⟨by rw [K.out]; rfl, rfl⟩
  · rw [decide_eq_false h1] at hn
    have hn2 : (FloatKind.f64.format.order f f != some Ordering.eq) = false := by unfold bne; rw [hn]; rfl
    have hgt := gt_zero h1
    have hlt := lt_zero h1
    clear hn
    by_cases h2 : rg f = inf
    · obtain ⟨y, hy, hyy⟩ := half_eq_inf h2
      have rd := run_div_some 26 f y hy
      rw [decide_eq_true (by omega : rg f ≠ 0), Bool.and_true] at hgt hlt
      cases hs : sg f with
      | false =>
        have k : kd f = 1 := by unfold kd; rw [if_neg h1, if_pos h2, hs]; rfl
        rw [hs] at hgt hlt
        have K := Lib.hid k
        clear h1 h2 hz k hf hi hs hy
        go_enter Try.func38, Try.ntmps38
        go_wp2
        go_ret
        exact ⟨by rw [K.out]; rfl, rfl⟩
      | true =>
        have k : kd f = 2 := by unfold kd; rw [if_neg h1, if_pos h2, hs]; rfl
        rw [hs] at hgt hlt
        have K := Lib.hid k
        clear h1 h2 hz k hf hi hs hy
        go_enter Try.func38, Try.ntmps38
        go_wp2
        go_ret
        exact ⟨by rw [K.out]; rfl, rfl⟩
    · by_cases h3 : rg f = 0
      · rw [decide_eq_true h3] at hz
        rw [decide_eq_false (by omega : ¬ rg f ≠ 0), Bool.and_false] at hgt hlt
        have k : kd f = if sg f then 4 else 3 := by unfold kd; rw [if_neg h1, if_neg h2, if_pos h3]
        cases hs : sg f with
        | true =>
          rw [hs] at k
          have K := Lib.hid k
          have b0 : ((f : Int) == 0) = false := by
            have : f ≠ 0 := by intro e; rw [e] at hs; exact absurd hs (by decide)
            simp [this]
          clear h1 h2 h3 k hf hi hs
          go_enter Try.func38, Try.ntmps38
          go_wp2
          go_ret
          exact ⟨by rw [K.out]; rfl, rfl⟩
        | false =>
          rw [hs] at k
          have K := Lib.hid k
          have b0 : ((f : Int) == 0) = true := by
            have : f = 0 := by unfold rg at h3; unfold sg at hs; simp at hs; omega
            simp [this]
          clear h1 h2 h3 k hf hi hs
          go_enter Try.func38, Try.ntmps38
          go_wp2
          go_ret
          exact ⟨by rw [K.out]; rfl, rfl⟩
      · rw [decide_eq_false h3] at hz
        rw [decide_eq_true (by omega : rg f ≠ 0), Bool.and_true] at hgt hlt
        obtain ⟨y, hy, hyy⟩ := half_ne hf h3 (by omega)
        have rd := run_div_some 26 f y hy
        have k : kd f = if sg f then 5 else 6 := by unfold kd; rw [if_neg h1, if_neg h2, if_neg h3]
        cases hs : sg f with
        | true =>
          rw [hs] at k hgt hlt
          have K := Lib.hid k
          clear h1 h2 h3 k hf hi hs hy
          go_enter Try.func38, Try.ntmps38
          go_wp2
          go_ret
          exact ⟨by rw [K.out]; rfl, rfl⟩
        | false =>
          rw [hs] at k hgt hlt
          have K := Lib.hid k
          clear h1 h2 h3 k hf hi hs hy
          go_enter Try.func38, Try.ntmps38
          go_wp2
          go_ret
          exact ⟨by rw [K.out]; rfl, rfl⟩
end Go.Proofs.Ytmollbnhndjjeaa
