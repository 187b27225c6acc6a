/- The plain laws of delays: what layer 12's loop computes over the bits of floats, and what follows from it. No program in sight. -/
import Derived.Laws.FloatArith
import Derived.Test.YtmollbnhndjjeaaFl
namespace Go.Proofs.Ytmollbnhndjjeaa
open Fl

def ltF (a b : Nat) : Bool := FloatKind.f64.format.order a b == some .lt
def mulF (a b : Nat) : Option Nat := FloatKind.f64.format.mul a b
/-- The loop: 'none': it comes to the cap. -/
def it (most fw : Nat) : Nat → Nat → Option Nat
  | 0, d => if ltF d most then some d else none
  | k + 1, d => if ltF d most then (match mulF d fw with | none => none | some y => it most fw k y) else none
def fl (n : Int) : Nat := floatOfInt .f64 n
/-- 'max(d, 0)'. -/
def mx0 (d : Nat) : Nat := match FloatKind.f64.format.order d 0 with
  | some .gt => d
  | some .eq => if (FloatKind.f64.decode d).neg then 0 else d
  | _ => 0
def whole (d : Nat) : Int := if sg d then 0 else ((rv (rg d) / U : Nat) : Int)
def fin (cap : Int) : Option Nat → Int
  | none => cap
  | some d => whole d
/-- The delay. -/
def nx (base cap : Int) (fw : Nat) (k : Int) : Int := fin cap (it (fl cap) fw (min k 1000).toNat (fl base))

/-- A word that stands for the whole number n. -/
def Is (w : Nat) (n : Nat) : Prop := rg w < inf ∧ sg w = false ∧ rv (rg w) = n * U

theorem fl_is (n : Int) (h0 : 0 ≤ n) (h1 : n < 9007199254740992) : Is (fl n) n.toNat := by
  have e : fl n = Ieee.double.nearest (decide (n < 0)) n.natAbs 0 := rfl
  rw [e, nearest_eq, decide_eq_false (by omega)]
  obtain ⟨r, hr, hv, hn⟩ := nearest_nat n.natAbs (by omega)
  rw [hn]
  obtain ⟨a1, a2⟩ := word_rg (neg := false) (r := r) (Nat.le_of_lt hr)
  exact ⟨by rw [a1]; exact hr, a2, by rw [a1, hv]; congr 1; omega⟩

theorem Is.sv {w n : Nat} (h : Is w n) : Fl.sv w = ((n * U : Nat) : Int) := by
  unfold Fl.sv
  rw [h.2.1, h.2.2]; rfl

theorem ltF_fin {a b : Nat} (ha : rg a < inf) (hb : rg b < inf) : ltF a b = decide (Fl.sv a < Fl.sv b) := by
  unfold ltF
  show (Ieee.double.order a b == some .lt) = _
  rw [order_fin ha hb]
  show (some (compareOfLessAndEq (Fl.sv a) (Fl.sv b)) == some Ordering.lt) = _
  unfold compareOfLessAndEq
  by_cases h1 : Fl.sv a < Fl.sv b
  · rw [if_pos h1, decide_eq_true h1]; rfl
  · rw [if_neg h1, decide_eq_false h1]
    split <;> rfl
theorem mulU_lt {a b : Nat} : a * U < b * U ↔ a < b := ⟨fun h => Nat.lt_of_mul_lt_mul_right h, fun h => Nat.mul_lt_mul_of_pos_right h U_pos⟩
theorem ltF_is {a b m n : Nat} (ha : Is a m) (hb : Is b n) : ltF a b = decide (m < n) := by
  rw [ltF_fin ha.1 hb.1, ha.sv, hb.sv]
  have : ((m * U : Nat) : Int) < ((n * U : Nat) : Int) ↔ m < n := by rw [Int.ofNat_lt]; exact mulU_lt
  simp only [this]

/-- What is less than a finite float that isn't negative. -/
theorem of_ltF {d most n : Nat} (hm : Is most n) (h : ltF d most = true) : (sg d = true ∧ rg d ≤ inf) ∨ (sg d = false ∧ rg d < inf ∧ rv (rg d) < n * U) := by
  by_cases h1 : rg d < inf
  · rw [ltF_fin h1 hm.1, hm.sv, decide_eq_true_eq] at h
    by_cases h2 : sg d = true
    · exact .inl ⟨h2, Nat.le_of_lt h1⟩
    · refine .inr ⟨by simpa using h2, h1, ?_⟩
      unfold Fl.sv at h
      rw [if_neg h2] at h
      exact Int.ofNat_lt.1 h
  · by_cases h2 : rg d = inf
    · unfold ltF at h
      have e : FloatKind.f64.format.order d most = Ieee.double.order d most := rfl
      rw [e, order_inf_fin h2 hm.1] at h
      by_cases h3 : sg d = true
      · exact .inl ⟨h3, Nat.le_of_eq h2⟩
      · rw [if_neg h3] at h; exact absurd h (by decide)
    · unfold ltF at h
      have e : FloatKind.f64.format.order d most = Ieee.double.order d most := rfl
      rw [e, order_nan (.inl (by omega))] at h
      exact absurd h (by decide)

theorem nan_not_lt {d most : Nat} (h : inf < rg d) : ltF d most = false := by
  unfold ltF
  have e : FloatKind.f64.format.order d most = Ieee.double.order d most := rfl
  rw [e, order_nan (.inl h)]; rfl

theorem zero_is : Is 0 0 := ⟨by decide, by decide, by rw [Nat.zero_mul]; rfl⟩

theorem mx0_spec {d most n : Nat} (hm : Is most n) (h : ltF d most = true) : rg (mx0 d) < inf ∧ sg (mx0 d) = false ∧ rv (rg (mx0 d)) = if sg d then 0 else rv (rg d) := by
  have e : FloatKind.f64.format.order d 0 = Ieee.double.order d 0 := rfl
  have z : rg 0 < inf ∧ sg 0 = false ∧ rv (rg 0) = 0 := by decide
  rcases of_ltF hm h with ⟨h1, h2⟩ | ⟨h1, h2, h3⟩
  · rw [if_pos h1]
    have : mx0 d = 0 := by
      unfold mx0
      rw [e]
      by_cases hi : rg d = inf
      · rw [order_inf_fin hi z.1, if_pos h1]
      · obtain ⟨m, p, e1, _⟩ := read_fin (w := d) (by omega)
        rw [order_fin (by omega) z.1]
        have hs : Fl.sv d ≤ 0 := by unfold Fl.sv; rw [if_pos h1]; omega
        have hz : Fl.sv 0 = 0 := by decide
        rw [hz]
        have hneg : (FloatKind.f64.decode d).neg = true := by
          show (Ieee.double.read d).neg = true
          rw [e1]; exact h1
        rw [hneg]
        show (match some (compareOfLessAndEq (Fl.sv d) 0) with | some .gt => d | some .eq => _ | _ => 0) = 0
        unfold compareOfLessAndEq
        by_cases h5 : Fl.sv d < 0
        · rw [if_pos h5]
        · rw [if_neg h5, if_pos (by omega)]; rfl
    rw [this]; exact z
  · rw [h1]
    have : mx0 d = d := by
      unfold mx0
      rw [e, order_fin h2 z.1]
      obtain ⟨m, p, e1, _⟩ := read_fin (w := d) h2
      have hs : 0 ≤ Fl.sv d := by unfold Fl.sv; rw [h1]; simp
      have hz : Fl.sv 0 = 0 := by decide
      have hneg : (FloatKind.f64.decode d).neg = false := by
        show (Ieee.double.read d).neg = false
        rw [e1]; exact h1
      rw [hz, hneg]
      show (match some (compareOfLessAndEq (Fl.sv d) 0) with | some .gt => d | some .eq => _ | _ => 0) = d
      unfold compareOfLessAndEq
      rw [if_neg (by omega)]
      by_cases h5 : Fl.sv d = 0
      · rw [if_pos h5]; rfl
      · rw [if_neg h5]
    rw [this]; exact ⟨h2, h1, by simp⟩

theorem whole_spec {d most n : Nat} (hm : Is most n) (hn : n ≤ 1099511627776) (h : ltF d most = true) :
    floatToIntVal .f64 (mx0 d) .i64 = some (whole d) ∧ 0 ≤ whole d ∧ whole d ≤ n := by
  obtain ⟨a1, a2, a3⟩ := mx0_spec hm h
  have hw : 0 ≤ whole d ∧ whole d ≤ n := by
    unfold whole
    rcases of_ltF hm h with ⟨h1, h2⟩ | ⟨h1, h2, h3⟩
    · rw [if_pos h1]; omega
    · rw [h1]
      have : rv (rg d) / U < n := (Nat.div_lt_iff_lt_mul U_pos).2 h3
      exact ⟨Int.natCast_nonneg _, Int.ofNat_le.2 (Nat.le_of_lt this)⟩
  refine ⟨?_, hw⟩
  unfold floatToIntVal
  have e : FloatKind.f64.decode (mx0 d) = Ieee.double.read (mx0 d) := rfl
  rw [e, toInt_fin a1, a2, a3]
  have ew : (if false = true then -(((if sg d = true then 0 else rv (rg d)) / U : Nat) : Int) else (((if sg d = true then 0 else rv (rg d)) / U : Nat) : Int)) = whole d := by
    unfold whole
    simp only [Bool.false_eq_true, if_false]
    split
    · rw [Nat.zero_div]; rfl
    · rfl
  rw [ew]
  have m1 : IntKind.i64.min = -9223372036854775808 := rfl
  have m2 : IntKind.i64.max = 9223372036854775807 := rfl
  simp only [m1, m2]
  rw [if_pos (by omega)]

/-! ### the loop -/
theorem it_lt {most fw : Nat} : ∀ {k d x : Nat}, it most fw k d = some x → ltF x most = true
  | 0, d, x, h => by
    unfold it at h
    split at h
    · rename_i h1; cases h; exact h1
    · cases h
  | k + 1, d, x, h => by
    unfold it at h
    split at h
    · split at h
      · cases h
      · exact it_lt h
    · cases h
theorem it_start {most fw k d x : Nat} (h : it most fw k d = some x) : ltF d most = true := by
  cases k with
  | zero => unfold it at h; split at h; · assumption
            · cases h
  | succ k => unfold it at h; split at h; · assumption
              · cases h
/-- One round more, behind the others. -/
theorem it_succ (most fw : Nat) : ∀ k d : Nat, it most fw (k + 1) d = match it most fw k d with
    | none => none
    | some x => match mulF x fw with | none => none | some y => if ltF y most then some y else none
  | 0, d => by
    show (if ltF d most then (match mulF d fw with | none => none | some y => it most fw 0 y) else none) = match (if ltF d most then some d else none) with
      | none => none
      | some x => match mulF x fw with | none => none | some y => if ltF y most then some y else none
    by_cases h : ltF d most = true
    · rw [if_pos h, if_pos h]; rfl
    · rw [if_neg h, if_neg h]
  | k + 1, d => by
    show (if ltF d most then (match mulF d fw with | none => none | some y => it most fw (k + 1) y) else none) = match (if ltF d most then (match mulF d fw with | none => none | some y => it most fw k y) else none) with
      | none => none
      | some x => match mulF x fw with | none => none | some y => if ltF y most then some y else none
    by_cases h : ltF d most = true
    · rw [if_pos h, if_pos h]
      cases h2 : mulF d fw with
      | none => rfl
      | some y => exact it_succ most fw k y
    · rw [if_neg h, if_neg h]

theorem cap_is {cap : Int} (h0 : 0 ≤ cap) (h1 : cap ≤ 1099511627776) : Is (fl cap) cap.toNat := fl_is cap h0 (by omega)

theorem fin_range {cap : Int} {fw k d : Nat} (h0 : 0 ≤ cap) (h1 : cap ≤ 1099511627776) : 0 ≤ fin cap (it (fl cap) fw k d) ∧ fin cap (it (fl cap) fw k d) ≤ cap := by
  cases h : it (fl cap) fw k d with
  | none => exact ⟨h0, Int.le_refl _⟩
  | some x =>
    obtain ⟨_, a, b⟩ := whole_spec (cap_is h0 h1) (by omega) (it_lt h)
    exact ⟨a, by show whole x ≤ cap; omega⟩

theorem nx_range {base cap : Int} {fw : Nat} {k : Int} (h0 : 0 ≤ cap) (h1 : cap ≤ 1099511627776) : 0 ≤ nx base cap fw k ∧ nx base cap fw k ≤ cap := fin_range h0 h1

theorem whole_is {d n : Nat} (h : Is d n) : whole d = n := by
  unfold whole
  rw [h.2.1, h.2.2, Nat.mul_div_cancel _ U_pos]; rfl

theorem nx_zero {base cap : Int} {fw : Nat} (hb0 : 0 ≤ base) (hb1 : base ≤ 1099511627776) (h0 : 0 ≤ cap) (h1 : cap ≤ 1099511627776) : nx base cap fw 0 = min base cap := by
  unfold nx
  have e : (min (0 : Int) 1000).toNat = 0 := by decide
  rw [e]
  show fin cap (if ltF (fl base) (fl cap) then some (fl base) else none) = _
  rw [ltF_is (cap_is hb0 hb1) (cap_is h0 h1)]
  by_cases h : base.toNat < cap.toNat
  · rw [decide_eq_true h, if_pos rfl]
    show whole (fl base) = _
    rw [whole_is (cap_is hb0 hb1)]; omega
  · rw [decide_eq_false h, if_neg (by decide)]
    show cap = _
    omega

/-- A product of whole numbers is exact. -/
theorem mul_is {a b m n : Nat} (ha : Is a m) (hb : Is b n) (h : m * n < 9007199254740992) : ∃ y, mulF a b = some y ∧ Is y (m * n) := by
  obtain ⟨e, hle, h1, h2⟩ := mul_fin ha.1 hb.1
  refine ⟨_, e, ?_⟩
  obtain ⟨r, hr, hv⟩ := rung_of_nat (m * n) h
  have hp : rv (rg a) * rv (rg b) = rv r * U := by
    rw [ha.2.2, hb.2.2, hv]; simp only [Nat.mul_assoc, Nat.mul_left_comm]
  have e1 := h1 r (by rw [hp]; exact Nat.le_refl _)
  have e2 := h2 r (Nat.le_of_lt hr) (by rw [hp]; exact Nat.le_refl _)
  have er : mr a b = r := by omega
  obtain ⟨b1, b2⟩ := word_rg (neg := sg a ^^ sg b) (r := mr a b) hle
  refine ⟨by rw [b1, er]; exact hr, ?_, by rw [b1, er, hv]⟩
  rw [b2, ha.2.1, hb.2.1]; rfl

/-- Of a factor from 1 on: what isn't negative never falls. -/
def AtLeast1 (fw : Nat) : Prop := sg fw = false ∧ (rg fw = inf ∨ (rg fw < inf ∧ U ≤ rv (rg fw)))
theorem mul_ge {d fw y : Nat} (hf : AtLeast1 fw) (hd : sg d = false ∧ rg d < inf) (h : mulF d fw = some y) : sg y = false ∧ rg y ≤ inf ∧ rv (rg d) ≤ rv (rg y) := by
  have e : mulF d fw = Ieee.double.mul d fw := rfl
  rw [e] at h
  rcases hf.2 with hi | ⟨hfin, hu⟩
  · by_cases h0 : rg d = 0
    · rw [mul_inf_zero h0 hi] at h; cases h
    · rw [mul_inf_pos (by omega) hd.2 hi] at h
      cases h
      obtain ⟨b1, b2⟩ := word_rg (neg := sg d ^^ sg fw) (r := inf) (Nat.le_refl _)
      rw [b1, b2, hd.1, hf.1]
      exact ⟨rfl, Nat.le_refl _, rv_le (Nat.le_of_lt hd.2)⟩
  · obtain ⟨e, hle, h1, h2⟩ := mul_fin hd.2 hfin
    rw [e] at h
    cases h
    obtain ⟨b1, b2⟩ := word_rg (neg := sg d ^^ sg fw) (r := mr d fw) hle
    rw [b1, b2, hd.1, hf.1]
    refine ⟨rfl, hle, rv_le (h2 _ (Nat.le_of_lt hd.2) (Nat.mul_le_mul_left _ hu))⟩

theorem it_pos {cap : Int} {fw : Nat} (h0 : 0 ≤ cap) (h1 : cap ≤ 1099511627776) (hf : AtLeast1 fw) : ∀ k d x : Nat, sg d = false → it (fl cap) fw k d = some x → sg x = false ∧ rg x < inf
  | 0, d, x, hs, h => by
    have hl := it_lt h
    unfold it at h
    split at h
    · cases h
      rcases of_ltF (cap_is h0 h1) hl with ⟨a, _⟩ | ⟨a, b, _⟩
      · rw [hs] at a; cases a
      · exact ⟨a, b⟩
    · cases h
  | k + 1, d, x, hs, h => by
    have hl := it_start h
    unfold it at h
    rw [if_pos hl] at h
    split at h
    · cases h
    · rename_i y hy
      have hd : sg d = false ∧ rg d < inf := by
        rcases of_ltF (cap_is h0 h1) hl with ⟨a, _⟩ | ⟨a, b, _⟩
        · rw [hs] at a; cases a
        · exact ⟨a, b⟩
      exact it_pos h0 h1 hf k y x (mul_ge hf hd hy).1 h

theorem fin_mono {cap : Int} {fw : Nat} (h0 : 0 ≤ cap) (h1 : cap ≤ 1099511627776) (hf : AtLeast1 fw) (k d : Nat) (hs : sg d = false) : fin cap (it (fl cap) fw k d) ≤ fin cap (it (fl cap) fw (k + 1) d) := by
  rw [it_succ]
  cases h : it (fl cap) fw k d with
  | none => exact Int.le_refl _
  | some x =>
    obtain ⟨p1, p2⟩ := it_pos h0 h1 hf k d x hs h
    have hx := (whole_spec (cap_is h0 h1) (by omega) (it_lt h)).2.2
    simp only
    cases hm : mulF x fw with
    | none => show whole x ≤ cap; omega
    | some y =>
      obtain ⟨q1, q2, q3⟩ := mul_ge hf ⟨p1, p2⟩ hm
      simp only
      split
      · show whole x ≤ whole y
        unfold whole
        rw [p1, q1]
        have := Nat.div_le_div_right (c := U) q3
        simp only [Bool.false_eq_true, if_false]
        omega
      · show whole x ≤ cap; omega

theorem nx_mono {base cap : Int} {fw : Nat} {k : Int} (hb0 : 0 ≤ base) (hb1 : base ≤ 1099511627776) (h0 : 0 ≤ cap) (h1 : cap ≤ 1099511627776) (hf : AtLeast1 fw) (hk : 0 ≤ k) : nx base cap fw k ≤ nx base cap fw (k + 1) := by
  unfold nx
  by_cases h : k < 1000
  · have e : (min (k + 1) 1000).toNat = (min k 1000).toNat + 1 := by omega
    rw [e]
    exact fin_mono h0 h1 hf _ _ (cap_is hb0 hb1).2.1
  · have e : (min (k + 1) 1000).toNat = (min k 1000).toNat := by omega
    rw [e]
    exact Int.le_refl _

/-- Of a whole factor: the next delay is the lesser one of so many times this one, and the cap. -/
theorem it_whole {cap : Int} {fw f : Nat} (h0 : 0 ≤ cap) (h1 : cap ≤ 1099511627776) (hf : Is fw f) (hf9 : f ≤ 9) : ∀ k d n : Nat, Is d n → n < 9007199254740992 → ∀ x, it (fl cap) fw k d = some x → ∃ m, Is x m ∧ (m : Int) < cap
  | 0, d, n, hd, hn, x, h => by
    have hl := it_lt h
    unfold it at h
    split at h
    · cases h
      rw [ltF_is hd (cap_is h0 h1), decide_eq_true_eq] at hl
      exact ⟨n, hd, by omega⟩
    · cases h
  | k + 1, d, n, hd, hn, x, h => by
    have hl := it_start h
    unfold it at h
    rw [if_pos hl] at h
    rw [ltF_is hd (cap_is h0 h1), decide_eq_true_eq] at hl
    have hlt : n * f < 9007199254740992 := by
      have := Nat.mul_le_mul_left n hf9
      omega
    obtain ⟨y, e, hy⟩ := mul_is hd hf hlt
    rw [e] at h
    exact it_whole h0 h1 hf hf9 k y (n * f) hy hlt x h

theorem nx_step {base cap : Int} {fw f : Nat} {k : Int} (hb0 : 0 ≤ base) (hb1 : base ≤ 1099511627776) (h0 : 0 ≤ cap) (h1 : cap ≤ 1099511627776) (hf : Is fw f) (hf9 : f ≤ 9) (hk : 0 ≤ k) (hk2 : k < 1000) :
    nx base cap fw (k + 1) = if nx base cap fw k < cap then min (nx base cap fw k * f) cap else nx base cap fw k := by
  unfold nx
  have e : (min (k + 1) 1000).toNat = (min k 1000).toNat + 1 := by omega
  rw [e, it_succ]
  cases h : it (fl cap) fw (min k 1000).toNat (fl base) with
  | none => show cap = if cap < cap then _ else cap; rw [if_neg (by omega)]
  | some x =>
    obtain ⟨m, hm, hmc⟩ := it_whole h0 h1 hf hf9 _ _ _ (cap_is hb0 hb1) (by omega) x h
    have ew : whole x = m := whole_is hm
    have hlt : m * f < 9007199254740992 := by
      have := Nat.mul_le_mul_left m hf9
      omega
    obtain ⟨y, e2, hy⟩ := mul_is hm hf hlt
    simp only [e2, ltF_is hy (cap_is h0 h1)]
    show fin cap (if decide (m * f < cap.toNat) = true then some y else none) = if whole x < cap then min (whole x * f) cap else whole x
    rw [ew, if_pos hmc]
    by_cases hc : m * f < cap.toNat
    · rw [decide_eq_true hc, if_pos rfl]
      show whole y = _
      rw [whole_is hy]
      have : ((m * f : Nat) : Int) = (m : Int) * f := Int.natCast_mul _ _
      omega
    · rw [decide_eq_false hc, if_neg (by decide)]
      show cap = _
      have : ((m * f : Nat) : Int) = (m : Int) * f := Int.natCast_mul _ _
      omega

end Go.Proofs.Ytmollbnhndjjeaa
