/- DelayEdges: the plain laws, the walk. -/
import Derived.Test.YtmollbnhndjjeaaDk
import Derived.Deep.RegionHeld3
namespace Go.Proofs.Ytmollbnhndjjeaa
open Go.RowKit Fl

theorem nx_capped {base cap : Int} {fw : Nat} {k : Int} (h0 : 0 ≤ base) (h1 : base ≤ 1099511627776) (h2 : 0 ≤ cap) (h3 : cap ≤ 1099511627776) (hk : 1 ≤ k) (hm : base < cap → ∀ j, it (fl cap) fw (j + 1) (fl base) = none) : nx base cap fw k = cap := by
  unfold nx
  obtain ⟨j, hj⟩ : ∃ j, (min k 1000).toNat = j + 1 := ⟨(min k 1000).toNat - 1, by omega⟩
  rw [hj]
  by_cases hb : base < cap
  · rw [hm hb]; rfl
  · show fin cap (if ltF (fl base) (fl cap) then _ else none) = cap
    rw [ltF_is (cap_is h0 h1) (cap_is h2 h3), decide_eq_false (by omega)]; rfl
theorem nx_nan {base cap : Int} {fw : Nat} {k : Int} (h0 : 0 ≤ base) (h1 : base ≤ 1099511627776) (h2 : 0 ≤ cap) (h3 : cap ≤ 1099511627776) (hk : 1 ≤ k) (hn : inf < rg fw) : nx base cap fw k = cap := by
  refine nx_capped h0 h1 h2 h3 hk fun hb j => ?_
  have e : mulF (fl base) fw = none := mul_nan (.inr hn)
  show (if ltF (fl base) (fl cap) then (match mulF (fl base) fw with | none => none | some y => it (fl cap) fw j y) else none) = none
  rw [e]
  split <;> rfl
theorem nx_inf {base cap : Int} {fw : Nat} {k : Int} (h0 : 0 ≤ base) (h1 : base ≤ 1099511627776) (h2 : 0 ≤ cap) (h3 : cap ≤ 1099511627776) (hk : 1 ≤ k) (hn : rg fw = inf) (hs : sg fw = false) : nx base cap fw k = cap := by
  refine nx_capped h0 h1 h2 h3 hk fun hb j => ?_
  show (if ltF (fl base) (fl cap) then (match mulF (fl base) fw with | none => none | some y => it (fl cap) fw j y) else none) = none
  have hd := cap_is h0 h1
  have hm := cap_is h2 h3
  by_cases hz : base = 0
  · have hr : rg (fl base) = 0 := by
      have h := hd.2.2
      rw [hz] at h
      have : (0 : Int).toNat = 0 := rfl
      rw [this, Nat.zero_mul, ← rv_zero] at h
      have a := (rv_le_iff (r := rg (fl 0)) (s := 0)).1 (by omega)
      rw [hz]; omega
    have e : mulF (fl base) fw = none := mul_inf_zero hr hn
    rw [e]
    split <;> rfl
  · have hr : 0 < rg (fl base) := by
      have h := hd.2.2
      rcases Nat.eq_zero_or_pos (rg (fl base)) with h4 | h4
      · rw [h4, rv_zero] at h
        have := Nat.mul_pos (show 0 < base.toNat by omega) U_pos
        omega
      · exact h4
    have e : mulF (fl base) fw = some (Ieee.double.word (sg (fl base) ^^ sg fw) inf) := mul_inf_pos hr hd.1 hn
    rw [e, hd.2.1, hs]
    obtain ⟨a1, a2⟩ := word_rg (neg := false) (Nat.le_refl inf)
    have hlt : ltF (Ieee.double.word (false ^^ false) inf) (fl cap) = false := by
      show (Ieee.double.order (Ieee.double.word false inf) (fl cap) == some .lt) = false
      rw [order_inf_fin a1 hm.1, a2]; rfl
    show (if ltF (fl base) (fl cap) then it (fl cap) fw j (Ieee.double.word (false ^^ false) inf) else none) = none
    have : it (fl cap) fw j (Ieee.double.word (false ^^ false) inf) = none := by
      cases j <;> (show (if ltF _ (fl cap) then _ else none) = none; rw [hlt]; rfl)
    rw [this]
    split <;> rfl
/-- Nought stays nought. -/
theorem it_nought {cap : Int} {fw : Nat} (h2 : 0 < cap) (h3 : cap ≤ 1099511627776) (hf : rg fw = 0) : ∀ (j d : Nat), rg d = 0 → fin cap (it (fl cap) fw j d) = 0 := by
  have hm := cap_is (Int.le_of_lt h2) h3
  have hlt : ∀ d, rg d = 0 → ltF d (fl cap) = true := by
    intro d hd
    have hi : rg d < inf := by rw [hd]; decide
    rw [ltF_fin hi hm.1, hm.sv]
    have hp := Nat.mul_pos (show 0 < cap.toNat by omega) U_pos
    have hs : Fl.sv d = 0 := by unfold Fl.sv; rw [hd, rv_zero]; split <;> rfl
    rw [hs]
    exact decide_eq_true (by omega)
  intro j
  induction j with
  | zero =>
    intro d hd
    show fin cap (if ltF d (fl cap) then some d else none) = 0
    rw [hlt d hd]
    show whole d = 0
    unfold whole
    rw [hd, rv_zero, Nat.zero_div]
    split <;> rfl
  | succ j ih =>
    intro d hd
    have hi : rg d < inf := by rw [hd]; decide
    obtain ⟨e, hle, h1, _⟩ := mul_fin hi (show rg fw < inf by rw [hf]; decide)
    have hz : mr d fw = 0 := by
      have := h1 0 (by rw [hd, hf, rv_zero]; simp)
      omega
    have e' : mulF d fw = some (Ieee.double.word (sg d ^^ sg fw) (mr d fw)) := e
    show fin cap (if ltF d (fl cap) then (match mulF d fw with | none => none | some y => it (fl cap) fw j y) else none) = 0
    rw [hlt d hd, e']
    exact ih _ (by obtain ⟨a, _⟩ := word_rg (neg := sg d ^^ sg fw) hle; rw [a, hz])
theorem nx_nought {base cap : Int} {fw : Nat} {k : Int} (h0 : 0 ≤ base) (h1 : base ≤ 1099511627776) (h2 : 0 ≤ cap) (h3 : cap ≤ 1099511627776) (hk : 1 ≤ k) (hf : rg fw = 0) : nx base cap fw k = if base < cap then 0 else cap := by
  by_cases hb : base < cap
  · rw [if_pos hb]
    unfold nx
    obtain ⟨j, hj⟩ : ∃ j, (min k 1000).toNat = j + 1 := ⟨(min k 1000).toNat - 1, by omega⟩
    rw [hj]
    have hd := cap_is h0 h1
    obtain ⟨e, hle, h4, _⟩ := mul_fin hd.1 (show rg fw < inf by rw [hf]; decide)
    have hz : mr (fl base) fw = 0 := by
      have := h4 0 (by rw [hf, rv_zero]; simp)
      omega
    have e' : mulF (fl base) fw = some (Ieee.double.word (sg (fl base) ^^ sg fw) (mr (fl base) fw)) := e
    show fin cap (if ltF (fl base) (fl cap) then (match mulF (fl base) fw with | none => none | some y => it (fl cap) fw j y) else none) = 0
    rw [e', ltF_is hd (cap_is h2 h3), decide_eq_true (by omega)]
    exact it_nought (by omega) h3 hf j _ (by obtain ⟨a, _⟩ := word_rg (neg := sg (fl base) ^^ sg fw) hle; rw [a, hz])
  · rw [if_neg hb]
    exact nx_capped h0 h1 h2 h3 hk fun h => absurd h hb

theorem nan_bits (p : Int) (h0 : 0 ≤ p) (h1 : p ≤ 18446744073709551615) :
    inf < rg (bits BinOp.or IntKind.u64 (bits BinOp.or IntKind.u64 9218868437227405312 (bits BinOp.and IntKind.u64 p 9227875636482146303)) 1).toNat ∧
    (bits BinOp.or IntKind.u64 (bits BinOp.or IntKind.u64 9218868437227405312 (bits BinOp.and IntKind.u64 p 9227875636482146303)) 1).toNat < 18446744073709551616 := by
  obtain ⟨q, rfl⟩ : ∃ q : Nat, p = q := ⟨p.toNat, by omega⟩
  have hq : q < 2 ^ 64 := by
    have : (2 : Nat) ^ 64 = 18446744073709551616 := by decide
    omega
  have e1 : bits BinOp.and IntKind.u64 (q : Int) 9227875636482146303 = ((q &&& 9227875636482146303 : Nat) : Int) := bits_and_u64_nat q 9227875636482146303 (by omega) (by decide)
  have l1 : q &&& 9227875636482146303 < 2 ^ 64 := Nat.and_lt_two_pow _ (by decide)
  generalize q &&& 9227875636482146303 = r at *
  have lr : r < 18446744073709551616 := l1
  have e2 : bits BinOp.or IntKind.u64 9218868437227405312 (r : Int) = ((9218868437227405312 ||| r : Nat) : Int) := bits_or_u64_nat 9218868437227405312 r (by decide) lr
  have l2 : 9218868437227405312 ||| r < 2 ^ 64 := Nat.or_lt_two_pow (by decide) l1
  have e3 : bits BinOp.or IntKind.u64 ((9218868437227405312 ||| r : Nat) : Int) 1 = (((9218868437227405312 ||| r) ||| 1 : Nat) : Int) := bits_or_u64_nat (9218868437227405312 ||| r) 1 l2 (by decide)
  have l3 : (9218868437227405312 ||| r) ||| 1 < 2 ^ 64 := Nat.or_lt_two_pow l2 (by decide)
  rw [e1, e2, e3, Int.toNat_natCast]
  refine ⟨?_, l3⟩
  have em : rg ((9218868437227405312 ||| r) ||| 1) = ((9218868437227405312 % 2 ^ 63) ||| (r % 2 ^ 63)) ||| (1 % 2 ^ 63) := by
    show _ % 2 ^ 63 = _
    rw [Nat.or_mod_two_pow, Nat.or_mod_two_pow]
  rw [em]
  have c1 : (9218868437227405312 : Nat) % 2 ^ 63 = 9218868437227405312 := by decide
  have c2 : (1 : Nat) % 2 ^ 63 = 1 := by decide
  rw [c1, c2]
  generalize r % 2 ^ 63 = z
  have g1 : 9218868437227405312 ≤ 9218868437227405312 ||| z := Nat.left_le_or
  have g2 : 9218868437227405312 ||| z ≤ (9218868437227405312 ||| z) ||| 1 := Nat.left_le_or
  have odd : ((9218868437227405312 ||| z) ||| 1) % 2 = 1 := by
    have : ((9218868437227405312 ||| z) ||| 1) % 2 ^ 1 = ((9218868437227405312 ||| z) % 2 ^ 1) ||| (1 % 2 ^ 1) := Nat.or_mod_two_pow
    rw [Nat.pow_one] at this
    rw [this]
    have h2 : (9218868437227405312 ||| z) % 2 = 0 ∨ (9218868437227405312 ||| z) % 2 = 1 := by omega
    rcases h2 with h2 | h2 <;> rw [h2] <;> decide
  unfold inf
  omega
theorem kd_facts : kd 9218868437227405312 = 1 ∧ True ∧ kd 18442240474082181120 = 2 ∧ kd 0 = 3 ∧ kd 9223372036854775808 = 4 ∧ kd 13826050856027422720 = 5 ∧ kd 1 = 6 := by decide +kernel

set_option maxHeartbeats 400000 in
theorem inf_walk (w : World) : Calls Try.prog 40 #[.int .i64 1] w fun e w' => e = .returned (.float .f64 9218868437227405312) ∧ w = w' := by
  have fb := frombits
  go_enter Try.func40, Try.ntmps40
  go_wp2
  go_ret
  exact ⟨rfl, rfl⟩
set_option maxHeartbeats 400000 in
theorem minf_walk (w : World) : Calls Try.prog 40 #[.int .i64 (-1)] w fun e w' => e = .returned (.float .f64 18442240474082181120) ∧ w = w' := by
  have fb := frombits
  go_enter Try.func40, Try.ntmps40
  go_wp2
  go_ret
  exact ⟨rfl, rfl⟩
set_option maxHeartbeats 400000 in
theorem csign_walk (w : World) : Calls Try.prog 41 #[.float .f64 0, .float .f64 13830554455654793216] w fun e w' => e = .returned (.float .f64 9223372036854775808) ∧ w = w' := by
  have fb := frombits
  have tb := tobits
  go_enter Try.func41, Try.ntmps41
  go_wp2
  go_ret
  exact ⟨rfl, rfl⟩

set_option maxRecDepth 100000 in
set_option maxHeartbeats 4000000 in
theorem edges_walk (a b k p : Int) (w : World) (_ : -9223372036854775808 ≤ a) (_ : a ≤ 9223372036854775807) (_ : -9223372036854775808 ≤ b) (_ : b ≤ 9223372036854775807) (hk0 : 0 ≤ k) (hk1 : k ≤ 255) (hp0 : 0 ≤ p) (hp1 : p ≤ 18446744073709551615) :
    Calls Try.prog 10 #[.agg #[.int .i64 a, .int .i64 b], .int .u8 k, .int .u64 p] w fun e w' => e = .returned (.bool true) ∧ Below w.heap.size w w' := by
  obtain ⟨b0, b1⟩ := tk_range a
  obtain ⟨l0, l1⟩ := tk_range b
  have fb := frombits
  go_enter Try.func10, Try.ntmps10
  go_wp2
  go_region
  go_wp2_with (first | (go_at_call 19; refine (ticks_any _ _).mono ?_; rintro e w2 ⟨rfl, rfl⟩) | (go_at_call 40; refine (inf_walk _).mono ?_; rintro e w2 ⟨rfl, rfl⟩))
  obtain ⟨q1, q2⟩ := nan_bits p hp0 hp1
  revert q1 q2
  generalize (bits BinOp.or IntKind.u64 (bits BinOp.or IntKind.u64 9218868437227405312 (bits BinOp.and IntKind.u64 p 9227875636482146303)) 1).toNat = N
  generalize bits BinOp.or IntKind.u64 (bits BinOp.or IntKind.u64 9218868437227405312 (bits BinOp.and IntKind.u64 p 9227875636482146303)) 1 = y1
  generalize bits BinOp.or IntKind.u64 9218868437227405312 (bits BinOp.and IntKind.u64 p 9227875636482146303) = y2
  generalize bits BinOp.and IntKind.u64 p 9227875636482146303 = y3
  intro q1 q2
  have kN : kd N = 0 := by unfold kd; rw [if_pos q1]
  have vN : nx (tk a) (tk b) N (1 + k) = tk b := nx_nan b0 b1 l0 l1 (by omega) q1
  have vI : nx (tk a) (tk b) 9218868437227405312 (1 + k) = tk b := nx_inf b0 b1 l0 l1 (by omega) (by decide) (by decide)
  have v0 : nx (tk a) (tk b) 0 (1 + k) = if tk a < tk b then 0 else tk b := nx_nought b0 b1 l0 l1 (by omega) (by decide)
  have v1 : nx (tk a) (tk b) 9223372036854775808 (1 + k) = if tk a < tk b then 0 else tk b := nx_nought b0 b1 l0 l1 (by omega) (by decide)
  have KN := Lib.hid kN
  have VN := Lib.hid vN
  have VI := Lib.hid vI
  have V0 := Lib.hid v0
  have V1 := Lib.hid v1
  have Q2 := Lib.hid q2
  have FN := Lib.hid (show Fine (tk a) (tk b) (1 + k) from ⟨b0, l0, by omega, b1, l1⟩)
  clear kN vN vI v0 v1 q1 q2 hp0 hp1
  have hsz : (w.alloc (.cells #[.int .i64 a, .int .i64 b] 31)).heap.size = w.heap.size + 1 := by simp
  go_loopw [41] (fun i wr => ∃ n : Nat, n ≤ 2 ∧ i = .int .i64 n ∧ Below w.heap.size w wr ∧ w.heap.size + 1 < wr.heap.size ∧ wr.cell? ⟨w.heap.size + 1, 0, none⟩ = some (.float .f64 N) ∧ wr.cell? ⟨w.heap.size + 1, 1, none⟩ = some (.float .f64 9218868437227405312)) (fun i _ => 3 - (intOf i).toNat)
  case atStart => exact ⟨0, by omega, rfl, (((Below.refl _ _).alloc (Nat.le_refl _) _).alloc (by simp) _).drew, by simp, by rw [← hsz]; exact World.cell?_alloc_new _ _ _ _, by rw [← hsz]; exact World.cell?_alloc_new _ _ _ _⟩
  case round =>
    obtain ⟨n, hn, rfl, hbr, hlt, hc0, hc1⟩ := hrel
    clear hsz
    by_cases h0 : n = 0
    · subst h0
      go_wp2_with fail
      refine (next_ok _ _ _ _ _ _ _ FN.out).mono ?_
      rintro e w1 ⟨rfl, hb⟩
      rw [VN.out]
      have B1 := below_call hbr hbr.size hb
      have hs := hb.size
      rw [← hb.cell (p := ⟨w.heap.size + 1, 0, none⟩) hlt] at hc0
      rw [← hb.cell (p := ⟨w.heap.size + 1, 1, none⟩) hlt] at hc1
      have H0 := Lib.hid hc0
      have H1 := Lib.hid hc1
      clear hb hc0 hc1
      go_wp2_with fail
      go_roundw
      case rel => exact ⟨1, by omega, rfl, B1, by omega, H0.out, H1.out⟩
      case measure => simp [intOf]
    · by_cases h1 : n = 1
      · subst h1
        go_wp2_with fail
        refine (next_ok _ _ _ _ _ _ _ FN.out).mono ?_
        rintro e w1 ⟨rfl, hb⟩
        rw [VI.out]
        have B1 := below_call hbr hbr.size hb
        have hs := hb.size
        rw [← hb.cell (p := ⟨w.heap.size + 1, 0, none⟩) hlt] at hc0
        rw [← hb.cell (p := ⟨w.heap.size + 1, 1, none⟩) hlt] at hc1
        have H0 := Lib.hid hc0
        have H1 := Lib.hid hc1
        clear hb hc0 hc1
        go_wp2_with fail
        go_roundw
        case rel => exact ⟨2, by omega, rfl, B1, by omega, H0.out, H1.out⟩
        case measure => simp [intOf]
      · have h2 : n = 2 := by omega
        subst h2
        go_wp2_with (go_at_call 41; refine (csign_walk _).mono ?_; rintro e w2 ⟨rfl, rfl⟩)
        have hbo := hbr.alloc hbr.size (.cells #[.float .f64 0, .float .f64 9223372036854775808] 26)
        have HBO := Lib.hid hbo
        clear hbo
        obtain ⟨wo, rfl⟩ : ∃ wo : World, wo = wr := ⟨_, rfl⟩
        go_loopw [65] (fun i wq => ∃ m : Nat, m ≤ 2 ∧ i = .int .i64 m ∧ Below w.heap.size w wq ∧ wo.heap.size < wq.heap.size ∧ wq.cell? ⟨wo.heap.size, 0, none⟩ = some (.float .f64 0) ∧ wq.cell? ⟨wo.heap.size, 1, none⟩ = some (.float .f64 9223372036854775808)) (fun i _ => 3 - (intOf i).toNat)
        case atStart => exact ⟨0, by omega, rfl, HBO.out, by simp, World.cell?_alloc_new _ _ _ _, World.cell?_alloc_new _ _ _ _⟩
        case round =>
          obtain ⟨m, hm, rfl, hbq, hlq, hd0, hd1⟩ := hrel
          clear hc0 hc1 hbr HBO hlt h0 h1
          by_cases h0 : m = 0
          · subst h0
            go_wp2_with fail
            refine (next_ok _ _ _ _ _ _ _ FN.out).mono ?_
            rintro e w1 ⟨rfl, hb⟩
            rw [V0.out]
            have B1 := below_call hbq hbq.size hb
            have hs := hb.size
            rw [← hb.cell (p := ⟨wo.heap.size, 0, none⟩) hlq] at hd0
            rw [← hb.cell (p := ⟨wo.heap.size, 1, none⟩) hlq] at hd1
            have H0 := Lib.hid hd0
            have H1 := Lib.hid hd1
            clear hb hd0 hd1
            rcases Int.lt_or_le (tk a) (tk b) with hab | hab
            · rw [if_pos hab]
              have z : ((0 : Int) != 0) = false := rfl
              go_wp2_with fail
              go_roundw
              case rel => exact ⟨1, by omega, rfl, B1, by omega, H0.out, H1.out⟩
              case measure => simp [intOf]
            · rw [if_neg (by omega)]
              have z : (tk b != tk b) = false := by simp
              have zd : decide (tk a < tk b) = false := by simp; omega
              cases hz : (tk b != 0) with
              | true =>
                go_wp2_with fail
                go_roundw
                case rel => exact ⟨1, by omega, rfl, B1, by omega, H0.out, H1.out⟩
                case measure => simp [intOf]
              | false =>
                go_wp2_with fail
                go_roundw
                case rel => exact ⟨1, by omega, rfl, B1, by omega, H0.out, H1.out⟩
                case measure => simp [intOf]
          · by_cases h1 : m = 1
            · subst h1
              go_wp2_with fail
              refine (next_ok _ _ _ _ _ _ _ FN.out).mono ?_
              rintro e w1 ⟨rfl, hb⟩
              rw [V1.out]
              have B1 := below_call hbq hbq.size hb
              have hs := hb.size
              rw [← hb.cell (p := ⟨wo.heap.size, 0, none⟩) hlq] at hd0
              rw [← hb.cell (p := ⟨wo.heap.size, 1, none⟩) hlq] at hd1
              have H0 := Lib.hid hd0
              have H1 := Lib.hid hd1
              clear hb hd0 hd1
              rcases Int.lt_or_le (tk a) (tk b) with hab | hab
              · rw [if_pos hab]
                have z : ((0 : Int) != 0) = false := rfl
                go_wp2_with fail
                go_roundw
                case rel => exact ⟨2, by omega, rfl, B1, by omega, H0.out, H1.out⟩
                case measure => simp [intOf]
              · rw [if_neg (by omega)]
                have z : (tk b != tk b) = false := by simp
                have zd : decide (tk a < tk b) = false := by simp; omega
                cases hz : (tk b != 0) with
                | true =>
                  go_wp2_with fail
                  go_roundw
                  case rel => exact ⟨2, by omega, rfl, B1, by omega, H0.out, H1.out⟩
                  case measure => simp [intOf]
                | false =>
                  go_wp2_with fail
                  go_roundw
                  case rel => exact ⟨2, by omega, rfl, B1, by omega, H0.out, H1.out⟩
                  case measure => simp [intOf]
            · have h2 : m = 2 := by omega
              subst h2
              clear h0 h1 hd0 hd1
              obtain ⟨k1, -, k2, k3, k4, k5, k6⟩ := kd_facts
              have K1 := Lib.hid k1
              have K2 := Lib.hid k2
              have K3 := Lib.hid k3
              have K4 := Lib.hid k4
              have K5 := Lib.hid k5
              have K6 := Lib.hid k6
              clear k1 k2 k3 k4 k5 k6
              go_wp2_with fail
              refine (alive12 _).mono ?_
              rintro e w1 ⟨rfl, hb⟩
              have B1 := below_call hbq hbq.size hb
              clear hb
              go_wp2_with fail
              refine (kind_walk _ _ Q2.out).mono ?_
              rintro e w2 ⟨rfl, rfl⟩
              rw [KN.out]
              go_wp2_with fail
              refine (inf_walk _).mono ?_
              rintro e w2 ⟨rfl, rfl⟩
              go_wp2_with fail
              refine (kind_walk _ _ (by decide)).mono ?_
              rintro e w2 ⟨rfl, rfl⟩
              rw [K1.out]
              go_wp2_with fail
              refine (minf_walk _).mono ?_
              rintro e w2 ⟨rfl, rfl⟩
              go_wp2_with fail
              refine (kind_walk _ _ (by decide)).mono ?_
              rintro e w2 ⟨rfl, rfl⟩
              rw [K2.out]
              go_wp2_with fail
              refine (kind_walk _ _ (by decide)).mono ?_
              rintro e w2 ⟨rfl, rfl⟩
              rw [K3.out]
              go_wp2_with fail
              refine (csign_walk _).mono ?_
              rintro e w2 ⟨rfl, rfl⟩
              go_wp2_with fail
              refine (kind_walk _ _ (by decide)).mono ?_
              rintro e w2 ⟨rfl, rfl⟩
              rw [K4.out]
              go_wp2_with fail
              refine (kind_walk _ _ (by decide)).mono ?_
              rintro e w2 ⟨rfl, rfl⟩
              rw [K5.out]
              go_wp2_with fail
              refine (kind_walk _ _ (by decide)).mono ?_
              rintro e w2 ⟨rfl, rfl⟩
              rw [K6.out]
              go_wp2_with fail
              go_ret
              exact ⟨rfl, B1⟩
end Go.Proofs.Ytmollbnhndjjeaa
