/- Plain lemmas on 64-bit floats as exact numbers: reading, rounding, products, order, whole parts. No program in sight. -/
import Ieee.Arith
namespace Go.Proofs.Ytmollbnhndjjeaa.Fl
open Ieee

/-- The value of a rung, in units of 2^-1074. -/
def rv (r : Nat) : Nat := if r < 4503599627370496 then r else (4503599627370496 + r % 4503599627370496) * 2 ^ (r / 4503599627370496 - 1)

theorem rv_block (q f : Nat) (hf : f ≤ 9007199254740992) (hq : q = 0 ∨ 4503599627370496 ≤ f) : rv (q * 4503599627370496 + f) = f * 2 ^ q := by
  by_cases h : f < 4503599627370496
  · have e0 : q = 0 := by omega
    have e1 : q * 4503599627370496 + f = f := by omega
    rw [e1, e0, Nat.pow_zero, Nat.mul_one]
    unfold rv
    exact if_pos h
  · unfold rv
    rw [if_neg (by omega)]
    by_cases h2 : f < 9007199254740992
    · have e1 : (q * 4503599627370496 + f) % 4503599627370496 = f - 4503599627370496 := by omega
      have e2 : (q * 4503599627370496 + f) / 4503599627370496 - 1 = q := by omega
      have e3 : 4503599627370496 + (f - 4503599627370496) = f := by omega
      rw [e1, e2, e3]
    · have : f = 9007199254740992 := by omega
      subst this
      have e1 : (q * 4503599627370496 + 9007199254740992) % 4503599627370496 = 0 := by omega
      have e2 : (q * 4503599627370496 + 9007199254740992) / 4503599627370496 - 1 = q + 1 := by omega
      rw [e1, e2, Nat.pow_succ]; omega

theorem rv_succ (r : Nat) : rv r < rv (r + 1) := by
  obtain ⟨q, f, hf, hq, rfl⟩ : ∃ q f, f < 9007199254740992 ∧ (q = 0 ∨ 4503599627370496 ≤ f) ∧ r = q * 4503599627370496 + f := by
    by_cases h : r < 4503599627370496
    · exact ⟨0, r, by omega, .inl rfl, by omega⟩
    · exact ⟨r / 4503599627370496 - 1, r % 4503599627370496 + 4503599627370496, by omega, .inr (by omega), by omega⟩
  rw [Nat.add_assoc, rv_block q f (by omega) hq, rv_block q (f + 1) (by omega) (by omega)]
  exact Nat.mul_lt_mul_of_pos_right (by omega) (Nat.two_pow_pos _)

theorem rv_lt {r s : Nat} (h : r < s) : rv r < rv s := by
  induction s with
  | zero => omega
  | succ s ih =>
    by_cases e : r = s
    · subst e; exact rv_succ r
    · exact Nat.lt_trans (ih (by omega)) (rv_succ s)
theorem rv_le {r s : Nat} (h : r ≤ s) : rv r ≤ rv s := by
  by_cases e : r = s
  · subst e; exact Nat.le_refl _
  · exact Nat.le_of_lt (rv_lt (by omega))
theorem rv_lt_iff {r s : Nat} : rv r < rv s ↔ r < s :=
  ⟨fun h => by
    by_cases e : r < s
    · exact e
    · have := rv_le (show s ≤ r by omega); omega, rv_lt⟩
theorem rv_le_iff {r s : Nat} : rv r ≤ rv s ↔ r ≤ s :=
  ⟨fun h => by
    by_cases e : r ≤ s
    · exact e
    · have := rv_lt (show s < r by omega); omega, rv_le⟩
theorem rv_zero : rv 0 = 0 := rfl
/-- The unit of whole numbers. -/
def U : Nat := 2 ^ 1074
theorem U_of {k : Nat} (h : k = 1074) : 2 ^ k = U := by rw [h]; exact U.eq_1.symm
theorem U_pos : 0 < U := by unfold U; exact Nat.two_pow_pos 1074

/-! ### reading a word -/
def inf : Nat := 9218868437227405312
theorem infRung_eq : double.infRung = inf := by decide
theorem binade_eq : double.binade = 4503599627370496 := by decide
theorem signWeight_eq : double.signWeight = 9223372036854775808 := by decide
theorem leastPlace_eq : double.leastPlace = -1074 := by decide

/-- The sign and the rung of a word. -/
def sg (w : Nat) : Bool := w / 9223372036854775808 % 2 == 1
def rg (w : Nat) : Nat := w % 9223372036854775808

theorem read_inf {w : Nat} (h : rg w = inf) : double.read w = .infinity (sg w) := by
  unfold Format.read
  simp only [signWeight_eq, binade_eq, infRung_eq]
  unfold rg at h
  rw [if_neg (by rw [h]; decide), if_neg (by rw [h]; decide), if_pos h]; rfl
theorem read_nan {w : Nat} (h : inf < rg w) : double.read w = .nan (sg w) (rg w - inf) := by
  unfold Format.read
  simp only [signWeight_eq, binade_eq, infRung_eq]
  unfold rg at h
  unfold inf at *
  rw [if_neg (by omega), if_neg (by omega), if_neg (by omega)]; rfl
theorem read_fin {w : Nat} (h : rg w < inf) : ∃ m p, double.read w = .number (sg w) m p ∧ -1074 ≤ p ∧ p ≤ 971 ∧ m * 2 ^ (p + 1074).toNat = rv (rg w) ∧ m < 9007199254740992 := by
  unfold Format.read
  simp only [signWeight_eq, binade_eq, infRung_eq, leastPlace_eq]
  unfold rg at *
  unfold inf at *
  by_cases h1 : w % 9223372036854775808 < 4503599627370496
  · rw [if_pos h1]
    refine ⟨_, _, rfl, by omega, by omega, ?_, by omega⟩
    unfold rv; rw [if_pos h1]; simp
  · rw [if_neg h1, if_pos h]
    refine ⟨_, _, rfl, by omega, by omega, ?_, by omega⟩
    unfold rv; rw [if_neg h1]; congr 2; omega

/-! ### rounding -/
theorem cut_zero (way : Toward) (neg : Bool) (n : Nat) (hw : way = .even ∨ way = .zero) : way.cut neg n 0 = n := by
  unfold Toward.cut
  have : (1 : Nat) <<< min 0 (n.log2 + 2) = 1 := by simp
  simp only [this, Nat.div_one, Nat.mod_one]
  rcases hw with rfl | rfl <;> simp

theorem lt_log2 (n : Nat) : n < 2 ^ (n.log2 + 1) := Nat.lt_log2_self

theorem gap_eq (drop k : Nat) (h : drop ≤ k) : (1 : Nat) <<< min drop k = 2 ^ drop := by
  rw [Nat.min_eq_left h, Nat.shiftLeft_eq, Nat.one_mul]
theorem gap_big (n drop : Nat) (h : n.log2 + 2 ≤ drop) : (1 : Nat) <<< min drop (n.log2 + 2) = 2 ^ (n.log2 + 2) := by
  rw [Nat.min_eq_right h, Nat.shiftLeft_eq, Nat.one_mul]

/-- The cut towards zero is a quotient. -/
theorem cut_trunc (neg : Bool) (n drop : Nat) : Toward.zero.cut neg n drop = n / 2 ^ drop := by
  unfold Toward.cut
  simp only [Bool.toNat_false, Nat.add_zero]
  by_cases h : drop ≤ n.log2 + 2
  · rw [gap_eq _ _ h]
  · rw [gap_big n drop (by omega)]
    have h1 := lt_log2 n
    have h2 : 2 ^ (n.log2 + 1) ≤ 2 ^ (n.log2 + 2) := Nat.pow_le_pow_right (by omega) (by omega)
    have h3 : 2 ^ (n.log2 + 2) ≤ 2 ^ drop := Nat.pow_le_pow_right (by omega) (by omega)
    rw [Nat.div_eq_of_lt (by omega), Nat.div_eq_of_lt (by omega)]

/-- The nearest whole number is at most each whole number that is not below, at least each that is not above. -/
theorem cut_even_le (neg : Bool) (n drop K : Nat) (h : n ≤ K * 2 ^ drop) : Toward.even.cut neg n drop ≤ K := by
  unfold Toward.cut
  have hl := lt_log2 n
  by_cases hd : drop ≤ n.log2 + 2
  · rw [gap_eq _ _ hd]
    simp only
    have hp : 0 < 2 ^ drop := Nat.two_pow_pos _
    generalize 2 ^ drop = g at *
    have h1 := Nat.div_add_mod n g
    have h2 := Nat.mod_lt n hp
    have h3 : n / g ≤ K := by
      have := Nat.div_le_div_right (c := g) h
      rwa [Nat.mul_div_cancel _ hp] at this
    by_cases e : n % g = 0
    · have e2 : (g == 0) = false := by simp; omega
      rw [e]; simp [e2, h3]
    · have h4 : n / g < K := by
        rcases Nat.lt_or_ge (n / g) K with h | h5
        · exact h
        · exfalso
          have : n / g = K := by omega
          rw [this, Nat.mul_comm] at h1
          omega
      have : ∀ b : Bool, b.toNat ≤ 1 := by decide
      have := this (decide (g < 2 * (n % g)) || (g == 2 * (n % g) && n / g % 2 == 1))
      omega
  · rw [gap_big n drop (by omega)]
    have e : 2 ^ (n.log2 + 2) = 2 * 2 ^ (n.log2 + 1) := by rw [Nat.pow_succ, Nat.mul_comm]
    have e1 : n / 2 ^ (n.log2 + 2) = 0 := Nat.div_eq_of_lt (by omega)
    have e2 : n % 2 ^ (n.log2 + 2) = n := Nat.mod_eq_of_lt (by omega)
    simp only [e1, e2]
    have hp : 0 < 2 ^ (n.log2 + 1) := Nat.two_pow_pos _
    have a1 : ¬ 2 ^ (n.log2 + 2) < 2 * n := by omega
    have a2 : (2 ^ (n.log2 + 2) == 2 * n) = false := by simp; omega
    rw [a2]; simp [a1]

theorem cut_even_ge (neg : Bool) (n drop K : Nat) (h : K * 2 ^ drop ≤ n) : K ≤ Toward.even.cut neg n drop := by
  unfold Toward.cut
  have hl := lt_log2 n
  by_cases hd : drop ≤ n.log2 + 2
  · rw [gap_eq _ _ hd]
    simp only
    have hp : 0 < 2 ^ drop := Nat.two_pow_pos _
    have : K ≤ n / 2 ^ drop := (Nat.le_div_iff_mul_le hp).2 h
    omega
  · have h3 : 2 ^ (n.log2 + 1) ≤ 2 ^ drop := Nat.pow_le_pow_right (by omega) (by omega)
    have : K = 0 := by
      rcases Nat.eq_zero_or_pos K with h | h5
      · exact h
      · exfalso
        have := Nat.mul_le_mul h5 (Nat.le_refl (2 ^ drop))
        omega
    omega

/-- The rung to which a number is rounded. -/
def nr (mag : Nat) (place : Int) : Nat :=
  if mag = 0 then 0 else
  let last := max (place + mag.log2 - 52) (-1074)
  min ((last + 1074).toNat * 4503599627370496 + Toward.even.cut false (mag <<< (place - last).toNat) (last - place).toNat) inf

theorem cut_even_neg (a b : Bool) (n drop : Nat) : Toward.even.cut a n drop = Toward.even.cut b n drop := rfl

theorem nearest_eq (neg : Bool) (mag : Nat) (place : Int) : double.nearest neg mag place = double.word neg (nr mag place) := by
  unfold Format.nearest nr
  by_cases h : mag = 0
  · rw [if_pos h, if_pos h]
  · rw [if_neg h, if_neg h]
    simp only [leastPlace_eq, binade_eq, infRung_eq]
    rw [cut_even_neg neg false]
    have : ((double.fractionBits : Nat) : Int) = 52 := rfl
    rw [this]
    have e : ∀ x : Int, x - -1074 = x + 1074 := fun x => by omega
    rw [e]

theorem nr_le_inf (mag : Nat) (place : Int) : nr mag place ≤ inf := by
  unfold nr
  split
  · exact Nat.zero_le _
  · exact Nat.min_le_right _ _

/-- 'mag * 2^place' in units of 2^-S against rungs in the same units. -/
theorem nr_spec (mag : Nat) (place : Int) (S : Nat) (hS : 1074 ≤ S) (hp : 0 ≤ place + S) :
    (∀ r, mag * 2 ^ (place + S).toNat ≤ rv r * 2 ^ (S - 1074) → nr mag place ≤ r) ∧
    (∀ r, r ≤ inf → rv r * 2 ^ (S - 1074) ≤ mag * 2 ^ (place + S).toNat → r ≤ nr mag place) := by
  unfold nr
  by_cases h0 : mag = 0
  · subst h0
    simp only [if_true, Nat.zero_mul]
    refine ⟨fun r _ => Nat.zero_le _, fun r _ h => ?_⟩
    have hz : rv r * 2 ^ (S - 1074) = 0 := by omega
    rcases Nat.mul_eq_zero.1 hz with h1 | h1
    · have := @rv_le_iff r 0
      rw [h1, rv_zero] at this
      omega
    · have := Nat.two_pow_pos (S - 1074); omega
  · rw [if_neg h0]
    simp only
    obtain ⟨L, hL⟩ : ∃ L : Nat, (L : Int) = max (place + mag.log2 - 52) (-1074) + 1074 := ⟨(max (place + mag.log2 - 52) (-1074) + 1074).toNat, by omega⟩
    have hlast : max (place + mag.log2 - 52) (-1074) = (L : Int) - 1074 := by omega
    rw [hlast]
    have eL : ((L : Int) - 1074 + 1074).toNat = L := by omega
    rw [eL]
    have hlo : 2 ^ mag.log2 ≤ mag := Nat.log2_self_le h0
    have hhi := lt_log2 mag
    -- the value and the unit of the last place, in units of 2^-S
    generalize hv : mag * 2 ^ (place + S).toNat = v
    generalize hu : 2 ^ (S - 1074) = u
    have hup : 0 < u := by rw [← hu]; exact Nat.two_pow_pos _
    generalize hK : Toward.even.cut false (mag <<< (place - ((L : Int) - 1074)).toNat) ((L : Int) - 1074 - place).toNat = K
    have hlp : 0 < 2 ^ L := Nat.two_pow_pos _
    -- K against whole numbers of units
    have key : (∀ k, v ≤ k * 2 ^ L * u → K ≤ k) ∧ (∀ k, k * 2 ^ L * u ≤ v → k ≤ K) := by
      subst hK
      by_cases hc : (L : Int) - 1074 ≤ place
      · have e1 : ((L : Int) - 1074 - place).toNat = 0 := by omega
        rw [e1, cut_zero _ _ _ (.inl rfl), Nat.shiftLeft_eq]
        have e2 : (place + S).toNat = (place - ((L : Int) - 1074)).toNat + (L + (S - 1074)) := by omega
        have e3 : v = mag * 2 ^ (place - ((L : Int) - 1074)).toNat * (2 ^ L * u) := by
          rw [← hv, ← hu, e2, Nat.pow_add, Nat.pow_add, Nat.mul_assoc]
        have hpos : 0 < 2 ^ L * u := Nat.mul_pos hlp hup
        refine ⟨fun k h => ?_, fun k h => ?_⟩
        · rw [e3, Nat.mul_assoc k] at h; exact Nat.le_of_mul_le_mul_right h hpos
        · rw [e3, Nat.mul_assoc k] at h; exact Nat.le_of_mul_le_mul_right h hpos
      · have e1 : (place - ((L : Int) - 1074)).toNat = 0 := by omega
        rw [e1, Nat.shiftLeft_zero]
        have e2 : L + (S - 1074) = ((L : Int) - 1074 - place).toNat + (place + S).toNat := by omega
        have e3 : 2 ^ L * u = 2 ^ ((L : Int) - 1074 - place).toNat * 2 ^ (place + S).toNat := by
          rw [← hu, ← Nat.pow_add, e2, Nat.pow_add]
        have hpos : 0 < 2 ^ (place + S).toNat := Nat.two_pow_pos _
        refine ⟨fun k h => ?_, fun k h => ?_⟩
        · refine cut_even_le _ _ _ _ ?_
          rw [← hv, Nat.mul_assoc, e3, ← Nat.mul_assoc] at h
          exact Nat.le_of_mul_le_mul_right h hpos
        · refine cut_even_ge _ _ _ _ ?_
          rw [← hv, Nat.mul_assoc, e3, ← Nat.mul_assoc] at h
          exact Nat.le_of_mul_le_mul_right h hpos
    -- v < 2^53 units
    have hvhi : v < 9007199254740992 * 2 ^ L * u := by
      have e : 9007199254740992 * 2 ^ L * u = 2 ^ (53 + L + (S - 1074)) := by
        rw [Nat.pow_add, Nat.pow_add, hu]
      have e2 : 53 + L + (S - 1074) = (mag.log2 + 1 + (place + S).toNat) + (53 + L + (S - 1074) - (mag.log2 + 1 + (place + S).toNat)) := by omega
      rw [e, e2, Nat.pow_add, Nat.pow_add _ (mag.log2 + 1), ← hv]
      have h1 : mag * 2 ^ (place + S).toNat < 2 ^ (mag.log2 + 1) * 2 ^ (place + S).toNat := Nat.mul_lt_mul_of_pos_right hhi (Nat.two_pow_pos _)
      exact Nat.lt_of_lt_of_le h1 (Nat.le_mul_of_pos_right _ (Nat.two_pow_pos _))
    -- v ≥ 2^52 units, or L = 0
    have hvlo : L = 0 ∨ 4503599627370496 * 2 ^ L * u ≤ v := by
      by_cases hz : L = 0
      · exact .inl hz
      · right
        have e : 4503599627370496 * 2 ^ L * u = 2 ^ (52 + L + (S - 1074)) := by
          rw [Nat.pow_add, Nat.pow_add, hu]
        have e2 : 52 + L + (S - 1074) = mag.log2 + (place + S).toNat := by omega
        rw [e, e2, Nat.pow_add, ← hv]
        exact Nat.mul_le_mul_right _ hlo
    have hKhi : K ≤ 9007199254740992 := key.1 _ (Nat.le_of_lt hvhi)
    have hKlo : L = 0 ∨ 4503599627370496 ≤ K := hvlo.imp id fun h => key.2 _ h
    refine ⟨fun r h => ?_, fun r hr h => ?_⟩
    · refine Nat.le_trans (Nat.min_le_left _ _) ?_
      by_cases hbig : (L + 2) * 4503599627370496 ≤ r
      · omega
      · by_cases hsm : r < L * 4503599627370496 + (if L = 0 then 0 else 4503599627370496)
        · exfalso
          have hL0 : L ≠ 0 := by intro e; rw [e] at hsm; simp at hsm
          rw [if_neg hL0] at hsm
          have h1 := rv_lt hsm
          rw [rv_block L 4503599627370496 (by omega) (.inr (by omega))] at h1
          have h2 := Nat.mul_lt_mul_of_pos_right h1 hup
          rcases hvlo with h3 | h3
          · exact hL0 h3
          · omega
        · obtain ⟨f, hf, hq, rfl⟩ : ∃ f, f ≤ 9007199254740992 ∧ (L = 0 ∨ 4503599627370496 ≤ f) ∧ r = L * 4503599627370496 + f := by
            refine ⟨r - L * 4503599627370496, by omega, ?_, ?_⟩ <;> split at hsm <;> omega
          rw [rv_block L f hf hq] at h
          have := key.1 _ h
          omega
    · refine (Nat.le_min).2 ⟨?_, hr⟩
      by_cases hbig : (L + 2) * 4503599627370496 ≤ r
      · exfalso
        have h1 := rv_le hbig
        have e : (L + 2) * 4503599627370496 = L * 4503599627370496 + 9007199254740992 := by omega
        rw [e, rv_block L _ (Nat.le_refl _) (.inr (by omega))] at h1
        have h2 := Nat.mul_le_mul_right u h1
        omega
      · by_cases hsm : r < L * 4503599627370496 + (if L = 0 then 0 else 4503599627370496)
        · split at hsm <;> omega
        · obtain ⟨f, hf, hq, rfl⟩ : ∃ f, f ≤ 9007199254740992 ∧ (L = 0 ∨ 4503599627370496 ≤ f) ∧ r = L * 4503599627370496 + f := by
            refine ⟨r - L * 4503599627370496, by omega, ?_, ?_⟩ <;> split at hsm <;> omega
          rw [rv_block L f hf hq] at h
          have := key.2 _ h
          omega

/-! ### numbers, products, order, whole parts of words -/
/-- The signed value of a finite word, in units of 2^-1074. -/
def sv (w : Nat) : Int := if sg w then -(rv (rg w) : Int) else rv (rg w)

theorem word_rg {neg : Bool} {r : Nat} (h : r ≤ inf) : rg (double.word neg r) = r ∧ sg (double.word neg r) = neg := by
  unfold Format.word rg sg
  rw [signWeight_eq]
  unfold inf at h
  cases neg
  · simp only [Bool.false_eq_true, if_false]
    refine ⟨by omega, ?_⟩
    have : r / 9223372036854775808 = 0 := by omega
    rw [this]; rfl
  · simp only [if_true]
    refine ⟨by omega, ?_⟩
    have : (9223372036854775808 + r) / 9223372036854775808 = 1 := by omega
    rw [this]; rfl

/-- A whole number below 2^53 is a rung's value. -/
theorem rung_of_nat (n : Nat) (hn : n < 9007199254740992) : ∃ r, r < inf ∧ rv r = n * U := by
  by_cases h0 : n = 0
  · exact ⟨0, by decide, by rw [h0, Nat.zero_mul, rv_zero]⟩
  · have hlo := Nat.log2_self_le h0
    have hhi := lt_log2 n
    have he : n.log2 ≤ 52 := by
      rcases Nat.lt_or_ge 52 n.log2 with h | h
      · exfalso
        have := Nat.pow_le_pow_right (show 0 < 2 by omega) (show 53 ≤ n.log2 from h)
        omega
      · exact h
    have hf1 : 4503599627370496 ≤ n * 2 ^ (52 - n.log2) := by
      have := Nat.mul_le_mul_right (2 ^ (52 - n.log2)) hlo
      rw [← Nat.pow_add, show n.log2 + (52 - n.log2) = 52 by omega] at this
      exact this
    have hf2 : n * 2 ^ (52 - n.log2) < 9007199254740992 := by
      have := Nat.mul_lt_mul_of_pos_right hhi (Nat.two_pow_pos (52 - n.log2))
      rw [← Nat.pow_add, show n.log2 + 1 + (52 - n.log2) = 53 by omega] at this
      exact this
    refine ⟨(n.log2 + 1022) * 4503599627370496 + n * 2 ^ (52 - n.log2), ?_, ?_⟩
    · unfold inf; omega
    · rw [rv_block _ _ (by omega) (.inr hf1), Nat.mul_assoc, ← Nat.pow_add, U_of (by omega)]

/-- 'float64(n)' of a whole number below 2^53 is exact. -/
theorem nearest_nat (n : Nat) (hn : n < 9007199254740992) : ∃ r, r < inf ∧ rv r = n * U ∧ nr n 0 = r := by
  obtain ⟨r, hr, hv⟩ := rung_of_nat n hn
  obtain ⟨h1, h2⟩ := nr_spec n 0 1074 (Nat.le_refl _) (by omega)
  have e : ((0 : Int) + (1074 : Nat)).toNat = 1074 := by omega
  rw [e, U_of rfl] at h1 h2
  have a1 := h1 r (by rw [hv, Nat.sub_self, Nat.pow_zero, Nat.mul_one]; exact Nat.le_refl _)
  have a2 := h2 r (Nat.le_of_lt hr) (by rw [hv, Nat.sub_self, Nat.pow_zero, Nat.mul_one]; exact Nat.le_refl _)
  exact ⟨r, hr, hv, by omega⟩

theorem read_word_inf (s : Bool) : double.read (double.word s inf) = .infinity s := by
  obtain ⟨h1, h2⟩ := word_rg (neg := s) (r := inf) (Nat.le_refl _)
  rw [read_inf h1, h2]

/-- The rung of a product. -/
def mr (a b : Nat) : Nat := match double.read a, double.read b with
  | .number _ m i, .number _ n j => nr (m * n) (i + j)
  | _, _ => 0

theorem mul_fin {a b : Nat} (ha : rg a < inf) (hb : rg b < inf) :
    double.mul a b = some (double.word (sg a ^^ sg b) (mr a b)) ∧ mr a b ≤ inf ∧
    (∀ r, rv (rg a) * rv (rg b) ≤ rv r * U → mr a b ≤ r) ∧ (∀ r, r ≤ inf → rv r * U ≤ rv (rg a) * rv (rg b) → r ≤ mr a b) := by
  obtain ⟨m, p, e1, p1, _, v1, _⟩ := read_fin ha
  obtain ⟨n, q, e2, q1, _, v2, _⟩ := read_fin hb
  unfold Format.mul mr
  rw [e1, e2]
  simp only [Datum.product, Option.map_some, Format.write]
  refine ⟨by rw [nearest_eq], nr_le_inf _ _, ?_⟩
  obtain ⟨S, hS⟩ : ∃ S : Nat, S = 2148 := ⟨_, rfl⟩
  obtain ⟨h1, h2⟩ := nr_spec (m * n) (p + q) S (by omega) (by omega)
  have e : m * n * 2 ^ (p + q + (S : Nat)).toNat = rv (rg a) * rv (rg b) := by
    rw [← v1, ← v2, show (p + q + (S : Nat)).toNat = (p + 1074).toNat + (q + 1074).toNat by omega, Nat.pow_add]
    simp only [Nat.mul_assoc, Nat.mul_left_comm]
  have hU : 2 ^ (S - 1074) = U := U_of (by omega)
  rw [e, hU] at h1 h2
  exact ⟨h1, h2⟩

theorem mul_nan {a b : Nat} (h : inf < rg a ∨ inf < rg b) : double.mul a b = none := by
  unfold Format.mul
  rcases h with h | h
  · rw [read_nan h]; rfl
  · rw [read_nan h]; cases double.read a <;> rfl
theorem mul_inf_zero {a b : Nat} (ha : rg a = 0) (hb : rg b = inf) : double.mul a b = none := by
  obtain ⟨m, p, e1, _, _, v1, _⟩ := read_fin (w := a) (by rw [ha]; decide)
  unfold Format.mul
  rw [e1, read_inf hb]
  rw [ha, rv_zero] at v1
  have : m = 0 := by
    rcases Nat.mul_eq_zero.1 v1 with h | h
    · exact h
    · have := Nat.two_pow_pos (p + 1074).toNat; omega
  subst this
  rfl
theorem mul_inf_pos {a b : Nat} (ha : 0 < rg a) (ha2 : rg a < inf) (hb : rg b = inf) : double.mul a b = some (double.word (sg a ^^ sg b) inf) := by
  obtain ⟨m, p, e1, _, _, v1, _⟩ := read_fin (w := a) ha2
  unfold Format.mul
  rw [e1, read_inf hb]
  have := rv_lt ha
  have hm : m ≠ 0 := by intro e; rw [e, Nat.zero_mul] at v1; omega
  simp only [Datum.product, if_neg hm, Option.map_some, Format.write, infRung_eq]
  rw [Bool.xor_comm]

/-! order -/
theorem compare_scale (x y : Int) (c : Int) (hc : 0 < c) : compare (x * c) (y * c) = compare x y := by
  have h1 : x * c < y * c ↔ x < y := Int.mul_lt_mul_right hc
  have h2 : x * c = y * c ↔ x = y := ⟨fun h => Int.eq_of_mul_eq_mul_right (by omega) h, fun h => by rw [h]⟩
  show (if x * c < y * c then Ordering.lt else if x * c = y * c then Ordering.eq else Ordering.gt) = (if x < y then Ordering.lt else if x = y then Ordering.eq else Ordering.gt)
  simp only [h1, h2]

theorem signed_scale (s : Bool) (m : Nat) (p base : Int) (hb : -1074 ≤ base) (hp : base ≤ p) :
    signed s m (p - base).toNat * ((2 ^ (base + 1074).toNat : Nat) : Int) = if s then -((m * 2 ^ (p + 1074).toNat : Nat) : Int) else ((m * 2 ^ (p + 1074).toNat : Nat) : Int) := by
  have e : m * 2 ^ (p + 1074).toNat = (m <<< (p - base).toNat) * 2 ^ (base + 1074).toNat := by
    rw [Nat.shiftLeft_eq, Nat.mul_assoc, ← Nat.pow_add]; congr 2; omega
  unfold signed
  rw [e]
  cases s
  · simp only [Bool.false_eq_true, if_false]; exact (Int.natCast_mul _ _).symm
  · simp only [if_true]; rw [Int.neg_mul, Int.natCast_mul]

theorem order_fin {a b : Nat} (ha : rg a < inf) (hb : rg b < inf) : double.order a b = some (compare (sv a) (sv b)) := by
  obtain ⟨m, p, e1, p1, _, v1, _⟩ := read_fin ha
  obtain ⟨n, q, e2, q1, _, v2, _⟩ := read_fin hb
  unfold Format.order
  rw [e1, e2]
  simp only [Datum.order]
  congr 1
  rw [← compare_scale _ _ ((2 ^ (min p q + 1074).toNat : Nat) : Int) (by have := Nat.two_pow_pos (min p q + 1074).toNat; omega)]
  rw [signed_scale _ _ _ _ (by omega) (by omega), signed_scale _ _ _ _ (by omega) (by omega), v1, v2]
  rfl

theorem order_nan {a b : Nat} (h : inf < rg a ∨ inf < rg b) : double.order a b = none := by
  unfold Format.order
  rcases h with h | h
  · rw [read_nan h]; rfl
  · rw [read_nan h]; cases double.read a <;> rfl
theorem order_inf_fin {a b : Nat} (ha : rg a = inf) (hb : rg b < inf) : double.order a b = some (if sg a then .lt else .gt) := by
  obtain ⟨n, q, e2, _⟩ := read_fin hb
  unfold Format.order
  rw [read_inf ha, e2]; rfl
theorem order_fin_inf {a b : Nat} (ha : rg a < inf) (hb : rg b = inf) : double.order a b = some (if sg b then .gt else .lt) := by
  obtain ⟨n, q, e2, _⟩ := read_fin ha
  unfold Format.order
  rw [read_inf hb, e2]; rfl
theorem order_inf_inf {a b : Nat} (ha : rg a = inf) (hb : rg b = inf) : double.order a b = some (compare (sg b).toNat (sg a).toNat) := by
  unfold Format.order
  rw [read_inf ha, read_inf hb]; rfl

/-- The whole part. -/
theorem toInt_fin {a : Nat} (ha : rg a < inf) : (double.read a).toInt .zero = some (if sg a then -((rv (rg a) / U : Nat) : Int) else ((rv (rg a) / U : Nat) : Int)) := by
  obtain ⟨m, p, e1, p1, _, v1, _⟩ := read_fin ha
  rw [e1]
  simp only [Datum.toInt, Datum.integral, cut_trunc]
  have e : m <<< p.toNat / 2 ^ (-p).toNat = rv (rg a) / U := by
    rw [← v1, Nat.shiftLeft_eq]
    by_cases h : 0 ≤ p
    · rw [show (-p).toNat = 0 by omega, Nat.pow_zero, Nat.div_one, show (p + 1074).toNat = p.toNat + 1074 by omega, Nat.pow_add, U_of rfl, ← Nat.mul_assoc, Nat.mul_div_cancel _ U_pos]
    · have e2 : U = 2 ^ (-p).toNat * 2 ^ (p + 1074).toNat := by rw [← Nat.pow_add, U_of (by omega)]
      rw [show p.toNat = 0 by omega, Nat.pow_zero, Nat.mul_one, e2, Nat.mul_div_mul_right _ _ (Nat.two_pow_pos _)]
  rw [e]
  unfold signed
  rw [Nat.shiftLeft_zero]

end Go.Proofs.Ytmollbnhndjjeaa.Fl
