/- The walks of the reference's Next and Total of layer 12. -/
import Derived.Test.YtmollbnhndjjeaaDw
namespace Go.Proofs.Ytmollbnhndjjeaa
open Go.RowKit Fl

theorem neg_or {D most n : Nat} (hm : Is most n) (hn : n ≤ 1099511627776) (h : ltF D most = true) :
    ((FloatKind.f64.format.order D 0 == some Ordering.lt) = true ∧ whole D = 0) ∨ ((FloatKind.f64.format.order D 0 == some Ordering.lt) = false ∧ floatToIntVal .f64 D .i64 = some (whole D)) := by
  have e : FloatKind.f64.format.order D 0 = Ieee.double.order D 0 := rfl
  have ef : FloatKind.f64.decode D = Ieee.double.read D := rfl
  have z : rg 0 < inf ∧ sg 0 = false ∧ rv (rg 0) = 0 := by decide
  have hz : Fl.sv 0 = 0 := by decide
  have m1 : IntKind.i64.min = -9223372036854775808 := rfl
  have m2 : IntKind.i64.max = 9223372036854775807 := rfl
  rcases of_ltF hm h with ⟨h1, h2⟩ | ⟨h1, h2, h3⟩
  · have hw : whole D = 0 := by unfold whole; rw [if_pos h1]
    by_cases hi : rg D = inf
    · left
      rw [e, order_inf_fin hi z.1, if_pos h1]
      exact ⟨rfl, hw⟩
    · rw [e, order_fin (by omega) z.1, hz]
      by_cases h5 : Fl.sv D < 0
      · left
        have : compare (Fl.sv D) 0 = .lt := by show compareOfLessAndEq _ _ = _; unfold compareOfLessAndEq; rw [if_pos h5]
        rw [this]
        exact ⟨rfl, hw⟩
      · right
        have h6 : rv (rg D) = 0 := by
          unfold Fl.sv at h5
          rw [if_pos h1] at h5
          omega
        refine ⟨?_, ?_⟩
        · show (some (compareOfLessAndEq (Fl.sv D) 0) == some Ordering.lt) = false
          unfold compareOfLessAndEq
          rw [if_neg h5]
          split <;> rfl
        · unfold floatToIntVal
          rw [ef, toInt_fin (by omega), h6, hw, Nat.zero_div]
          have : (if sg D = true then -(((0 : Nat) : Int)) else ((0 : Nat) : Int)) = 0 := by split <;> rfl
          rw [this]
          simp only [m1, m2]
          rw [if_pos (by omega)]
  · right
    have hs : 0 ≤ Fl.sv D := by unfold Fl.sv; rw [h1]; simp
    obtain ⟨_, w0, w1⟩ := whole_spec hm hn h
    refine ⟨?_, ?_⟩
    · rw [e, order_fin h2 z.1, hz]
      show (some (compareOfLessAndEq (Fl.sv D) 0) == some Ordering.lt) = false
      unfold compareOfLessAndEq
      rw [if_neg (by omega)]
      split <;> rfl
    · unfold floatToIntVal
      rw [ef, toInt_fin h2, h1]
      have : (if false = true then -((rv (rg D) / U : Nat) : Int) else ((rv (rg D) / U : Nat) : Int)) = whole D := by
        unfold whole; rw [h1]; simp
      rw [this]
      simp only [m1, m2]
      rw [if_pos (by omega)]

set_option maxRecDepth 100000 in
set_option maxHeartbeats 4000000 in
theorem rnext_ok (mf base cap tmo k : Int) (fw : Nat) (w : World) (h : Fine base cap k) :
    Calls Try.prog 35 #[.agg #[.int .i64 mf, .int .i64 base, .int .i64 cap, .int .i64 tmo, .float .f64 fw], .int .i64 k] w fun e w' => e = .returned (.tuple #[.int .i64 (nx base cap fw k), .int .i64 0]) ∧ Below w.heap.size w w' := by
  obtain ⟨h1, h2, h3, h4, h5⟩ := h
  have C0 := CfgAt.new w mf base cap tmo fw
  have B0 : Below w.heap.size w (w.alloc (.cells #[.int .i64 mf, .int .i64 base, .int .i64 cap, .int .i64 tmo, .float .f64 fw] 28)) := (Below.refl _ _).alloc (Nat.le_refl _) _
  have C0 := Lib.hid C0
  have B0 := Lib.hid B0
  cases hlt : ltF (fl base) (fl cap) with
  | false =>
    have e : nx base cap fw k = cap := by
      unfold nx
      cases (min k 1000).toNat <;> (show fin cap (if ltF (fl base) (fl cap) then _ else none) = cap; rw [hlt]; rfl)
    have e1 : (FloatKind.f64.format.order (floatOfInt FloatKind.f64 base) (floatOfInt FloatKind.f64 cap) == some Ordering.lt) = false := hlt
    have E := Lib.hid e
    clear e hlt
    rcases Int.lt_or_le 1000 k with hk | hk
    · go_enter Try.func35, Try.ntmps35
      go_wp2
      go_ret2
      exact ⟨ret_two E.out, B0.out⟩
    · go_enter Try.func35, Try.ntmps35
      go_wp2
      go_ret2
      exact ⟨ret_two E.out, B0.out⟩
  | true =>
    have e1 : (FloatKind.f64.format.order (floatOfInt FloatKind.f64 base) (floatOfInt FloatKind.f64 cap) == some Ordering.lt) = true := hlt
    have hlt := Lib.hid hlt
    rcases Int.lt_or_le 1000 k with hk | hk
    · go_enter Try.func35, Try.ntmps35
      go_wp2
      obtain ⟨-, c0, c1, c2, c3, c4⟩ := C0.out
      go_loopw [6, 7] (fun d i wr => ∃ (D : Nat) (n : Nat), (n : Int) ≤ 1000 ∧ i = .int .i64 n ∧ d = .float .f64 D ∧ ltF D (fl cap) = true ∧ Below w.heap.size w wr ∧ CfgAt wr w.heap.size mf base cap tmo fw ∧ nx base cap fw k = fin cap (it (fl cap) fw ((min k 1000).toNat - n) D)) (fun _ i _ => 1001 - (intOf i).toNat)
      case atStart => exact ⟨_, 0, by omega, rfl, rfl, hlt.out, B0.out, C0.out, rfl⟩
      case round =>
        obtain ⟨D, n, hn, rfl, rfl, hD, hbr, hcr, hnx⟩ := hrel
        clear c0 c1 c2 c3 c4 B0 C0 hlt e1
        have HC := Lib.hid hcr
        obtain ⟨-, c0, c1, c2, c3, c4⟩ := hcr
        have hm := cap_is h2 h5
        by_cases hnk : (n : Int) < 1000
        · have hk3 : (min k 1000).toNat - n = ((min k 1000).toNat - (n + 1)) + 1 := by omega
          have hn2 : (n : Int) < 1000 := by omega
          cases hmul : mulF D fw with
          | none =>
            obtain ⟨N, hN, r1⟩ := run_mul_none 26 D fw hmul wr
            have e : nx base cap fw k = cap := by
              rw [hnx, hk3]
              show fin cap (if ltF D (fl cap) then (match mulF D fw with | none => none | some y => it (fl cap) fw _ y) else none) = _
              rw [hD, hmul]; rfl
            have e2 : (FloatKind.f64.format.order N (floatOfInt FloatKind.f64 cap) == some Ordering.lt) = false := nan_not_lt (most := fl cap) hN
            have E := Lib.hid e
            clear hnx hD hm e hk3 hmul hN
            go_wp2
            go_ret2
            exact ⟨ret_two E.out, hbr.drew⟩
          | some y =>
            have r1 := run_mul_some 26 D fw y hmul
            have e : nx base cap fw k = fin cap (it (fl cap) fw ((min k 1000).toNat - (n + 1)) y) := by
              rw [hnx, hk3]
              show fin cap (if ltF D (fl cap) then (match mulF D fw with | none => none | some y => it (fl cap) fw _ y) else none) = _
              rw [hD, hmul]; rfl
            cases hy : ltF y (fl cap) with
            | false =>
              have e3 : nx base cap fw k = cap := by
                rw [e]
                cases (min k 1000).toNat - (n + 1) <;> (show fin cap (if ltF y (fl cap) then _ else none) = cap; rw [hy]; rfl)
              have e2 : (FloatKind.f64.format.order y (floatOfInt FloatKind.f64 cap) == some Ordering.lt) = false := hy
              have E := Lib.hid e3
              clear hnx hD hm e hk3 hmul e3 hy
              go_wp2
              go_ret2
              exact ⟨ret_two E.out, hbr⟩
            | true =>
              have e2 : (FloatKind.f64.format.order y (floatOfInt FloatKind.f64 cap) == some Ordering.lt) = true := hy
              have E := Lib.hid e
              have HY := Lib.hid hy
              clear hnx hD hm e hk3 hmul hy
              go_wp2
              go_roundw
              case rel => exact ⟨y, n + 1, by omega, by go_num, rfl, HY.out, hbr, HC.out, E.out⟩
              case measure => simp [intOf]; omega
        · have hkn : (min k 1000).toNat - n = 0 := by omega
          have e : nx base cap fw k = whole D := by
            rw [hnx, hkn]
            show fin cap (if ltF D (fl cap) then some D else none) = _
            rw [hD]; rfl
          rcases neg_or hm (by omega) hD with ⟨q1, q2⟩ | ⟨q1, q2⟩
          · rw [q2] at e
            have E := Lib.hid e
            clear hnx hD hm e hkn q2
            go_wp2
            go_ret2
            exact ⟨ret_two E.out, hbr⟩
          · have q3 : ∀ w, (convert 26 3 (.float .f64 D)).run Try.prog w = .ok (.int .i64 (whole D)) w := fun w => run_convert_float_int w 26 3 .f64 .i64 D (whole D) (by rw [Try.underlying26]; rfl) Try.underlying3 q2
            have E := Lib.hid e
            clear hnx hD hm e hkn q2
            go_wp2
            go_ret2
            exact ⟨ret_two E.out, hbr⟩
    · go_enter Try.func35, Try.ntmps35
      go_wp2
      obtain ⟨-, c0, c1, c2, c3, c4⟩ := C0.out
      go_loopw [6, 7] (fun d i wr => ∃ (D : Nat) (n : Nat), (n : Int) ≤ k ∧ i = .int .i64 n ∧ d = .float .f64 D ∧ ltF D (fl cap) = true ∧ Below w.heap.size w wr ∧ CfgAt wr w.heap.size mf base cap tmo fw ∧ nx base cap fw k = fin cap (it (fl cap) fw ((min k 1000).toNat - n) D)) (fun _ i _ => 1001 - (intOf i).toNat)
      case atStart => exact ⟨_, 0, by omega, rfl, rfl, hlt.out, B0.out, C0.out, rfl⟩
      case round =>
        obtain ⟨D, n, hn, rfl, rfl, hD, hbr, hcr, hnx⟩ := hrel
        clear c0 c1 c2 c3 c4 B0 C0 hlt e1
        have HC := Lib.hid hcr
        obtain ⟨-, c0, c1, c2, c3, c4⟩ := hcr
        have hm := cap_is h2 h5
        by_cases hnk : (n : Int) < k
        · have hk3 : (min k 1000).toNat - n = ((min k 1000).toNat - (n + 1)) + 1 := by omega
          have hn2 : (n : Int) < 1000 := by omega
          cases hmul : mulF D fw with
          | none =>
            obtain ⟨N, hN, r1⟩ := run_mul_none 26 D fw hmul wr
            have e : nx base cap fw k = cap := by
              rw [hnx, hk3]
              show fin cap (if ltF D (fl cap) then (match mulF D fw with | none => none | some y => it (fl cap) fw _ y) else none) = _
              rw [hD, hmul]; rfl
            have e2 : (FloatKind.f64.format.order N (floatOfInt FloatKind.f64 cap) == some Ordering.lt) = false := nan_not_lt (most := fl cap) hN
            have E := Lib.hid e
            clear hnx hD hm e hk3 hmul hN
            go_wp2
            go_ret2
            exact ⟨ret_two E.out, hbr.drew⟩
          | some y =>
            have r1 := run_mul_some 26 D fw y hmul
            have e : nx base cap fw k = fin cap (it (fl cap) fw ((min k 1000).toNat - (n + 1)) y) := by
              rw [hnx, hk3]
              show fin cap (if ltF D (fl cap) then (match mulF D fw with | none => none | some y => it (fl cap) fw _ y) else none) = _
              rw [hD, hmul]; rfl
            cases hy : ltF y (fl cap) with
            | false =>
              have e3 : nx base cap fw k = cap := by
                rw [e]
                cases (min k 1000).toNat - (n + 1) <;> (show fin cap (if ltF y (fl cap) then _ else none) = cap; rw [hy]; rfl)
              have e2 : (FloatKind.f64.format.order y (floatOfInt FloatKind.f64 cap) == some Ordering.lt) = false := hy
              have E := Lib.hid e3
              clear hnx hD hm e hk3 hmul e3 hy
              go_wp2
              go_ret2
              exact ⟨ret_two E.out, hbr⟩
            | true =>
              have e2 : (FloatKind.f64.format.order y (floatOfInt FloatKind.f64 cap) == some Ordering.lt) = true := hy
              have E := Lib.hid e
              have HY := Lib.hid hy
              clear hnx hD hm e hk3 hmul hy
              go_wp2
              go_roundw
              case rel => exact ⟨y, n + 1, by omega, by go_num, rfl, HY.out, hbr, HC.out, E.out⟩
              case measure => simp [intOf]; omega
        · have hkn : (min k 1000).toNat - n = 0 := by omega
          have e : nx base cap fw k = whole D := by
            rw [hnx, hkn]
            show fin cap (if ltF D (fl cap) then some D else none) = _
            rw [hD]; rfl
          rcases neg_or hm (by omega) hD with ⟨q1, q2⟩ | ⟨q1, q2⟩
          · rw [q2] at e
            have E := Lib.hid e
            clear hnx hD hm e hkn q2
            go_wp2
            go_ret2
            exact ⟨ret_two E.out, hbr⟩
          · have q3 : ∀ w, (convert 26 3 (.float .f64 D)).run Try.prog w = .ok (.int .i64 (whole D)) w := fun w => run_convert_float_int w 26 3 .f64 .i64 D (whole D) (by rw [Try.underlying26]; rfl) Try.underlying3 q2
            have E := Lib.hid e
            clear hnx hD hm e hkn q2
            go_wp2
            go_ret2
            exact ⟨ret_two E.out, hbr⟩

set_option maxHeartbeats 1000000 in
theorem rnext_bad (mf base cap tmo k : Int) (fw : Nat) (w : World) (h : ¬ Fine base cap k) :
    Calls Try.prog 35 #[.agg #[.int .i64 mf, .int .i64 base, .int .i64 cap, .int .i64 tmo, .float .f64 fw], .int .i64 k] w fun e w' => e = .returned (.tuple #[.int .i64 0, .int .i64 3]) ∧ Below w.heap.size w w' := by
  have hh : base < 0 ∨ 1099511627776 < base ∨ cap < 0 ∨ 1099511627776 < cap ∨ k < 0 := by
    by_cases h1 : 0 ≤ base ∧ base ≤ 1099511627776 ∧ 0 ≤ cap ∧ cap ≤ 1099511627776 ∧ 0 ≤ k
    · exact absurd ⟨h1.1, h1.2.2.1, h1.2.2.2.2, h1.2.1, h1.2.2.2.1⟩ h
    · omega
  clear h
  by_cases h1 : base < 0
  · clear hh
    go_enter Try.func35, Try.ntmps35
    go_wp2
    go_ret2
    exact ⟨rfl, (Below.refl _ _).alloc (Nat.le_refl _) _⟩
  by_cases h2 : 1099511627776 < base
  · clear hh
    go_enter Try.func35, Try.ntmps35
    go_wp2
    go_ret2
    exact ⟨rfl, (Below.refl _ _).alloc (Nat.le_refl _) _⟩
  by_cases h3 : cap < 0
  · clear hh
    go_enter Try.func35, Try.ntmps35
    go_wp2
    go_ret2
    exact ⟨rfl, (Below.refl _ _).alloc (Nat.le_refl _) _⟩
  by_cases h4 : 1099511627776 < cap
  · clear hh
    go_enter Try.func35, Try.ntmps35
    go_wp2
    go_ret2
    exact ⟨rfl, (Below.refl _ _).alloc (Nat.le_refl _) _⟩
  have h5 : k < 0 := by omega
  clear hh
  go_enter Try.func35, Try.ntmps35
  go_wp2
  go_ret2
  exact ⟨rfl, (Below.refl _ _).alloc (Nat.le_refl _) _⟩

set_option maxRecDepth 100000 in
set_option maxHeartbeats 1000000 in
theorem rtotal_ok (mf base cap tmo k : Int) (fw : Nat) (w : World) (h : Fine base cap k) (hk : k ≤ 1000) :
    Calls Try.prog 36 #[.agg #[.int .i64 mf, .int .i64 base, .int .i64 cap, .int .i64 tmo, .float .f64 fw], .int .i64 k] w fun e w' => e = .returned (.tuple #[.int .i64 (tot base cap fw k.toNat), .int .i64 0]) ∧ Below w.heap.size w w' := by
  have H := Lib.hid h
  obtain ⟨h1, h2, h3, h4, h5⟩ := h
  go_enter Try.func36, Try.ntmps36
  go_wp2_with fail
  refine (rnext_ok _ _ _ _ _ _ _ H.out).mono ?_
  rintro e w1 ⟨rfl, hb⟩
  have C1 := (CfgAt.new w mf base cap tmo fw).below hb
  have S1 := below_one hb
  clear hb
  go_wp2_with fail
  go_loopw [8, 9] (fun s i wr => ∃ n : Nat, n ≤ k.toNat ∧ i = .int .i64 n ∧ s = .int .i64 (tot base cap fw n) ∧ Below w.heap.size w wr ∧ CfgAt wr w.heap.size mf base cap tmo fw) (fun _ i _ => 1001 - (intOf i).toNat)
  case atStart => exact ⟨0, by omega, rfl, rfl, S1.1, C1⟩
  case round =>
    obtain ⟨n, hn, rfl, rfl, hbr, hcfg⟩ := hrel
    clear C1 S1
    have C := Lib.hid hcfg
    obtain ⟨clt, c0, c1, c2, c3, c4⟩ := hcfg
    by_cases hnk : (n : Int) < k
    · obtain ⟨s0, s1⟩ := tot_small (base := base) (fw := fw) h2 h5 (show n ≤ 1000 by omega)
      obtain ⟨x0, x1⟩ := nx_range (base := base) (fw := fw) (k := n) h2 h5
      go_wp2_with (go_at_call 35; refine (rnext_ok _ _ _ _ _ _ _ ⟨h1, h2, by omega, h4, h5⟩).mono ?_; rintro e w3 ⟨rfl, hb3⟩)
      go_roundw
      case rel => exact ⟨n + 1, by omega, by go_num, rfl, below_call hbr hbr.size hb3, C.out.below hb3⟩
      case measure => simp [intOf]; omega
    · have e : n = k.toNat := by omega
      have E := Lib.hid e; clear e
      go_wp2
      go_ret2
      exact ⟨by rw [← E.out]; rfl, hbr⟩

set_option maxRecDepth 100000 in
set_option maxHeartbeats 1000000 in
theorem rtotal_bad (mf base cap tmo k : Int) (fw : Nat) (w : World) (h : ¬ Fine base cap k) :
    Calls Try.prog 36 #[.agg #[.int .i64 mf, .int .i64 base, .int .i64 cap, .int .i64 tmo, .float .f64 fw], .int .i64 k] w fun e w' => e = .returned (.tuple #[.int .i64 0, .int .i64 3]) ∧ Below w.heap.size w w' := by
  have H := Lib.hid h; clear h
  go_enter Try.func36, Try.ntmps36
  go_wp2_with fail
  refine (rnext_bad _ _ _ _ _ _ _ H.out).mono ?_
  rintro e w1 ⟨rfl, hb⟩
  have S1 := below_one hb
  clear hb
  go_wp2
  go_ret2
  exact ⟨rfl, S1.1⟩
end Go.Proofs.Ytmollbnhndjjeaa
