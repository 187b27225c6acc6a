/- Plain laws on what a float is: NaN, an infinity, a nought, the sign; half of it; the other sign. -/
import Derived.Laws.FloatArith
import Derived.Test.YtmollbnhndjjeaaDp
namespace Go.Proofs.Ytmollbnhndjjeaa
open Fl

/-- P12.2's kinds. -/
def kd (f : Nat) : Int :=
  if inf < rg f then 0 else if rg f = inf then (if sg f then 2 else 1) else if rg f = 0 then (if sg f then 4 else 3) else if sg f then 5 else 6

theorem cmp_eq (a b : Int) : (some (compare a b) == some Ordering.eq) = decide (a = b) := by
  show (some (compareOfLessAndEq a b) == some Ordering.eq) = _
  unfold compareOfLessAndEq
  by_cases h1 : a < b
  · rw [if_pos h1, decide_eq_false (by omega)]; rfl
  · rw [if_neg h1]
    by_cases h2 : a = b
    · rw [if_pos h2, decide_eq_true h2]; rfl
    · rw [if_neg h2, decide_eq_false h2]; rfl
theorem cmp_gt (a b : Int) : (some (compare a b) == some Ordering.gt) = decide (b < a) := by
  show (some (compareOfLessAndEq a b) == some Ordering.gt) = _
  unfold compareOfLessAndEq
  by_cases h1 : a < b
  · rw [if_pos h1, decide_eq_false (by omega)]; rfl
  · rw [if_neg h1]
    by_cases h2 : a = b
    · rw [if_pos h2, decide_eq_false (by omega)]; rfl
    · rw [if_neg h2, decide_eq_true (by omega)]; rfl
theorem cmp_lt (a b : Int) : (some (compare a b) == some Ordering.lt) = decide (a < b) := by
  show (some (compareOfLessAndEq a b) == some Ordering.lt) = _
  unfold compareOfLessAndEq
  by_cases h1 : a < b
  · rw [if_pos h1, decide_eq_true h1]; rfl
  · rw [if_neg h1, decide_eq_false h1]
    split <;> rfl
theorem ord_eq (a b : Nat) : FloatKind.f64.format.order a b = Ieee.double.order a b := rfl

/-- 'f == f'. -/
theorem self_eq (f : Nat) : (FloatKind.f64.format.order f f == some Ordering.eq) = !decide (inf < rg f) := by
  rw [ord_eq]
  rcases Nat.lt_trichotomy (rg f) inf with h | h | h
  · rw [order_fin h h, cmp_eq, decide_eq_true rfl, decide_eq_false (by omega)]; rfl
  · rw [order_inf_inf h h, decide_eq_false (by omega)]
    show (some (compareOfLessAndEq _ _) == some Ordering.eq) = true
    unfold compareOfLessAndEq
    rw [if_neg (by omega), if_pos rfl]; rfl
  · rw [order_nan (.inl h), decide_eq_true h]; rfl

/-- The greatest float. -/
theorem max_facts : rg 9218868437227405311 < inf ∧ sg 9218868437227405311 = false ∧ rg 9218868437227405311 = 9218868437227405311 := by decide
theorem gt_max (f : Nat) : (FloatKind.f64.format.order f 9218868437227405311 == some Ordering.gt) = (decide (rg f = inf) && !sg f) := by
  obtain ⟨m1, m2, m3⟩ := max_facts
  rw [ord_eq]
  rcases Nat.lt_trichotomy (rg f) inf with h | h | h
  · rw [order_fin h m1, cmp_gt, decide_eq_false (by omega : ¬ rg f = inf), Bool.false_and, decide_eq_false]
    have hle : rv (rg f) ≤ rv (rg 9218868437227405311) := rv_le (by rw [m3]; unfold inf at h; omega)
    unfold Fl.sv
    rw [m2]
    simp only [Bool.false_eq_true, if_false]
    split <;> omega
  · rw [order_inf_fin h m1, decide_eq_true h, Bool.true_and]
    cases sg f <;> rfl
  · rw [order_nan (.inl h), decide_eq_false (by omega : ¬ rg f = inf)]; rfl

/-- The other sign. -/
theorem neg_facts (f : Nat) : rg (Op.negFloat .f64 f) = rg f ∧ sg (Op.negFloat .f64 f) = !sg f := by
  have e : Op.negFloat .f64 f = f ^^^ 2 ^ 63 := rfl
  rw [e]
  have r1 : ∀ x, rg x = x % 2 ^ 63 := fun _ => rfl
  have s1 : ∀ x, sg x = x.testBit 63 := fun x => by
    unfold sg
    rw [Nat.testBit_eq_decide_div_mod_eq]
    show (x / 2 ^ 63 % 2 == 1) = _
    by_cases h : x / 2 ^ 63 % 2 = 1 <;> simp [h]
  refine ⟨?_, ?_⟩
  · rw [r1, r1, Nat.xor_mod_two_pow, Nat.mod_self, Nat.xor_zero]
  · rw [s1, s1, Nat.testBit_xor, Nat.testBit_two_pow_self, Bool.xor_true]

/-! ### half of a float -/
theorem rv_half {r : Nat} (h : 1 ≤ r) : rv (r + 1) ≤ 2 * rv r := by
  obtain ⟨q, f, hf, hq, h1, rfl⟩ : ∃ q f, f < 9007199254740992 ∧ (q = 0 ∨ 4503599627370496 ≤ f) ∧ 1 ≤ f ∧ r = q * 4503599627370496 + f := by
    by_cases h : r < 4503599627370496
    · exact ⟨0, r, by omega, .inl rfl, by omega, by omega⟩
    · exact ⟨r / 4503599627370496 - 1, r % 4503599627370496 + 4503599627370496, by omega, .inr (by omega), by omega, by omega⟩
  rw [Nat.add_assoc, rv_block q f (by omega) hq, rv_block q (f + 1) (by omega) (by omega), ← Nat.mul_assoc]
  exact Nat.mul_le_mul_right _ (by omega)

def divF (a b : Nat) : Option Nat := FloatKind.f64.format.div a b
theorem read_two : Ieee.double.read 4611686018427387904 = .number false 4503599627370496 (-51) := by decide
theorem half_inf {f : Nat} (h : rg f = inf) : divF f 4611686018427387904 = some (Ieee.double.word (sg f) inf) := by
  show Ieee.double.div f 4611686018427387904 = _
  unfold Ieee.Format.div
  rw [read_inf h, read_two]
  show some (Ieee.double.word (sg f ^^ false) Ieee.double.infRung) = _
  rw [Bool.xor_false, infRung_eq]
theorem half_small {f : Nat} (hf : f < 18446744073709551616) (h : rg f = 1) : divF f 4611686018427387904 = some (Ieee.double.word (sg f) 0) := by
  have : f = 1 ∨ f = 9223372036854775809 := by unfold rg at h; omega
  rcases this with rfl | rfl
  · decide +kernel
  · decide +kernel
theorem half_fin {f : Nat} (h1 : 1 < rg f) (h2 : rg f < inf) : ∃ r, r < rg f ∧ r ≤ inf ∧ divF f 4611686018427387904 = some (Ieee.double.word (sg f) r) := by
  obtain ⟨m, i, e1, p1, _, v1, hm⟩ := read_fin h2
  have hm0 : m ≠ 0 := by
    intro e
    rw [e, Nat.zero_mul] at v1
    have := rv_lt (show 0 < rg f by omega)
    omega
  have hlog : m.log2 ≤ 52 := by
    rcases Nat.lt_or_ge 52 m.log2 with h | h
    · exfalso
      have := Nat.log2_self_le hm0
      have := Nat.pow_le_pow_right (show 0 < 2 by omega) (show 53 ≤ m.log2 from h)
      omega
    · exact h
  obtain ⟨g, hg⟩ : ∃ g : Nat, 54 + 52 - m.log2 = 52 + g := ⟨54 - m.log2, by omega⟩
  have hlog2 : (4503599627370496 : Nat).log2 = 52 := by decide
  have hdig : Ieee.double.fractionBits + 2 = 54 := rfl
  have hq : (Ieee.Datum.number (sg f) m i).quotient 54 (Ieee.Datum.number false 4503599627370496 (-51)) = some (.number (sg f) (2 * (m * 2 ^ g)) (i + 51 - (52 + g : Nat) - 1)) := by
    unfold Ieee.Datum.quotient
    simp only [hlog2, hg]
    rw [if_neg (by decide)]
    have e2 : m <<< (52 + g) = (m * 2 ^ g) * 4503599627370496 := by
      rw [Nat.shiftLeft_eq, Nat.pow_add, Nat.mul_comm (2 ^ 52), ← Nat.mul_assoc]
    rw [e2, Nat.mul_div_cancel _ (by omega), Nat.mul_mod_left]
    simp only [Bool.xor_false]
    congr 2
  have hdiv : divF f 4611686018427387904 = some (Ieee.double.word (sg f) (nr (2 * (m * 2 ^ g)) (i + 51 - (52 + g : Nat) - 1))) := by
    show Ieee.double.div f 4611686018427387904 = _
    unfold Ieee.Format.div
    rw [e1, read_two, hdig, hq]
    show some (Ieee.double.nearest _ _ _) = _
    rw [nearest_eq]
  refine ⟨_, ?_, nr_le_inf _ _, hdiv⟩
  obtain ⟨S, hS⟩ : ∃ S : Nat, S = 1200 := ⟨_, rfl⟩
  obtain ⟨n1, _⟩ := nr_spec (2 * (m * 2 ^ g)) (i + 51 - (52 + g : Nat) - 1) S (by omega) (by omega)
  have key := n1 (rg f - 1) (by
    have e3 : 2 * (m * 2 ^ g) * 2 ^ (i + 51 - (52 + g : Nat) - 1 + S).toNat = rv (rg f) * 2 ^ (S - 1075) := by
      rw [← v1]
      have : g + (i + 51 - (52 + g : Nat) - 1 + S).toNat + 1 = (i + 1074).toNat + (S - 1075) := by omega
      rw [Nat.mul_assoc m, ← Nat.pow_add, ← this, Nat.pow_succ, Nat.pow_add]
      simp only [Nat.mul_assoc, Nat.mul_left_comm, Nat.mul_comm]
    rw [e3]
    have e4 : S - 1074 = (S - 1075) + 1 := by omega
    rw [e4, Nat.pow_succ, Nat.mul_comm (2 ^ (S - 1075)) 2, ← Nat.mul_assoc]
    have hh := rv_half (r := rg f - 1) (by omega)
    rw [show rg f - 1 + 1 = rg f from by omega] at hh
    refine Nat.mul_le_mul_right _ ?_
    omega)
  omega
/-- A finite float that is no nought isn't its own half. -/
theorem half_ne {f : Nat} (hf : f < 18446744073709551616) (h1 : rg f ≠ 0) (h2 : rg f < inf) : ∃ y, divF f 4611686018427387904 = some y ∧ (FloatKind.f64.format.order f y == some Ordering.eq) = false := by
  obtain ⟨r, hr, hri, e⟩ : ∃ r, r < rg f ∧ r ≤ inf ∧ divF f 4611686018427387904 = some (Ieee.double.word (sg f) r) := by
    by_cases h : rg f = 1
    · exact ⟨0, by omega, Nat.zero_le _, half_small hf h⟩
    · exact half_fin (by omega) h2
  refine ⟨_, e, ?_⟩
  obtain ⟨a, b⟩ := word_rg (neg := sg f) hri
  rw [ord_eq, order_fin h2 (by rw [a]; omega), cmp_eq, decide_eq_false]
  unfold Fl.sv
  rw [a, b]
  have := rv_lt hr
  split <;> omega
theorem half_eq_inf {f : Nat} (h : rg f = inf) : ∃ y, divF f 4611686018427387904 = some y ∧ (FloatKind.f64.format.order f y == some Ordering.eq) = true := by
  refine ⟨_, half_inf h, ?_⟩
  obtain ⟨a, b⟩ := word_rg (neg := sg f) (Nat.le_refl inf)
  rw [ord_eq, order_inf_inf h a, b]
  show (some (compareOfLessAndEq _ _) == some Ordering.eq) = true
  unfold compareOfLessAndEq
  rw [if_neg (by omega), if_pos rfl]; rfl

/-! ### against nought -/
theorem zero_facts : rg 0 < inf ∧ sg 0 = false ∧ rv (rg 0) = 0 ∧ Fl.sv 0 = 0 := by decide
theorem rv_pos {r : Nat} (h : r ≠ 0) : 0 < rv r := by
  have := rv_lt (show 0 < r by omega)
  rw [rv_zero] at this
  exact this
theorem eq_zero (f : Nat) : (FloatKind.f64.format.order f 0 == some Ordering.eq) = decide (rg f = 0) := by
  obtain ⟨z1, z2, z3, z4⟩ := zero_facts
  rw [ord_eq]
  rcases Nat.lt_trichotomy (rg f) inf with h | h | h
  · rw [order_fin h z1, cmp_eq, z4]
    by_cases h0 : rg f = 0
    · rw [decide_eq_true h0, decide_eq_true]
      unfold Fl.sv
      rw [h0, rv_zero]; split <;> rfl
    · rw [decide_eq_false h0, decide_eq_false]
      have := rv_pos h0
      unfold Fl.sv
      split <;> omega
  · have hi : inf ≠ 0 := by decide
    rw [order_inf_fin h z1, decide_eq_false (by omega : ¬ rg f = 0)]
    cases sg f <;> rfl
  · rw [order_nan (.inl h), decide_eq_false (by omega : ¬ rg f = 0)]; rfl
theorem lt_zero {f : Nat} (hn : ¬ inf < rg f) : (FloatKind.f64.format.order f 0 == some Ordering.lt) = (sg f && decide (rg f ≠ 0)) := by
  obtain ⟨z1, z2, z3, z4⟩ := zero_facts
  rw [ord_eq]
  by_cases h : rg f = inf
  · have hi : inf ≠ 0 := by decide
    rw [order_inf_fin h z1, decide_eq_true (by omega : rg f ≠ 0)]
    cases sg f <;> rfl
  · rw [order_fin (by omega) z1, cmp_lt, z4]
    unfold Fl.sv
    cases hs : sg f with
    | true =>
      simp only [if_true, Bool.true_and]
      by_cases h0 : rg f = 0
      · rw [h0, rv_zero]; rfl
      · have := rv_pos h0
        rw [decide_eq_true (show rg f ≠ 0 from h0), decide_eq_true (by omega)]
    | false =>
      simp only [Bool.false_eq_true, if_false, Bool.false_and]
      exact decide_eq_false (by omega)
theorem gt_zero {f : Nat} (hn : ¬ inf < rg f) : (FloatKind.f64.format.order f 0 == some Ordering.gt) = (!sg f && decide (rg f ≠ 0)) := by
  obtain ⟨z1, z2, z3, z4⟩ := zero_facts
  rw [ord_eq]
  by_cases h : rg f = inf
  · have hi : inf ≠ 0 := by decide
    rw [order_inf_fin h z1, decide_eq_true (by omega : rg f ≠ 0)]
    cases sg f <;> rfl
  · rw [order_fin (by omega) z1, cmp_gt, z4]
    unfold Fl.sv
    cases hs : sg f with
    | true =>
      simp only [if_true, Bool.not_true, Bool.false_and]
      exact decide_eq_false (by omega)
    | false =>
      simp only [Bool.false_eq_true, if_false, Bool.not_false, Bool.true_and]
      by_cases h0 : rg f = 0
      · rw [h0, rv_zero]; rfl
      · have := rv_pos h0
        rw [decide_eq_true (show rg f ≠ 0 from h0), decide_eq_true (by omega)]
end Go.Proofs.Ytmollbnhndjjeaa
