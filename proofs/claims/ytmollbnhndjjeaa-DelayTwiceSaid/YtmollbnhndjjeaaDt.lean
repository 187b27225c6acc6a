/- DelayTwice: the plain law, the walk, the statement. -/
import Derived.Test.YtmollbnhndjjeaaDb
import Derived.ProofKit
import Derived.OpenShut
import Derived.ChangeOld
import Derived.Below
namespace Go.Proofs.Ytmollbnhndjjeaa
open Go.RowKit

theorem ret_bool {b : Bool} (h : b = true) : Ending.returned (.bool b) = .returned (.bool true) := by rw [h]
def twl (l : Int) : Nat → Int → Int
  | 0, w => w
  | n + 1, w => if 0 < w ∧ w < l then twl l n (w * 2) else w
theorem twl_stop (l : Int) (n : Nat) (w : Int) (h : ¬ (0 < w ∧ w < l)) : twl l n w = w := by
  cases n with
  | zero => rfl
  | succ n => exact if_neg h
theorem two_is : Is 4611686018427387904 2 := by
  have h : fl 2 = 4611686018427387904 := by decide +kernel
  rw [← h]
  exact fl_is 2 (by omega) (by omega)
theorem twice_it {l : Int} (h0 : 0 ≤ l) (h1 : l ≤ 1099511627776) : ∀ k d w : Nat, Is d w → w < 4503599627370496 → fin l (it (fl l) 4611686018427387904 k d) = min (twl l k w) l
  | 0, d, w, hd, hw => by
    show fin l (if ltF d (fl l) then some d else none) = min (w : Int) l
    rw [ltF_is hd (cap_is h0 h1)]
    by_cases h : w < l.toNat
    · rw [decide_eq_true h, if_pos rfl]
      show whole d = _
      rw [whole_is hd]; omega
    · rw [decide_eq_false h, if_neg (by decide)]
      show l = _
      omega
  | k + 1, d, w, hd, hw => by
    obtain ⟨y, e, hy⟩ := mul_is hd two_is (by omega)
    show fin l (if ltF d (fl l) then (match mulF d 4611686018427387904 with | none => none | some y => it (fl l) 4611686018427387904 k y) else none) = _
    rw [ltF_is hd (cap_is h0 h1), e]
    by_cases h : w < l.toNat
    · rw [decide_eq_true h, if_pos rfl]
      show fin l (it (fl l) 4611686018427387904 k y) = _
      rw [twice_it h0 h1 k y (w * 2) hy (by omega)]
      have e2 : ((w * 2 : Nat) : Int) = (w : Int) * 2 := by omega
      rw [e2]
      by_cases hz : 0 < w
      · show _ = min (if 0 < (w : Int) ∧ (w : Int) < l then twl l k ((w : Int) * 2) else w) l
        rw [if_pos ⟨by omega, by omega⟩]
      · rw [twl_stop l k _ (by omega), twl_stop l (k + 1) _ (by omega)]
        omega
    · rw [decide_eq_false h, if_neg (by decide), twl_stop l (k + 1) _ (by omega)]
      show l = _
      omega
theorem twl_sat (l : Int) (j : Nat) : ∀ (k : Nat) (w : Int), (w ≤ 0 ∨ l ≤ w * 2 ^ k) → twl l (k + j) w = twl l k w
  | 0, w, h => by
    rw [Nat.zero_add, twl_stop l j w (by rw [Int.pow_zero] at h; omega)]; rfl
  | k + 1, w, h => by
    by_cases hc : 0 < w ∧ w < l
    · have e : k + 1 + j = (k + j) + 1 := by omega
      rw [e]
      show (if 0 < w ∧ w < l then twl l (k + j) (w * 2) else w) = (if 0 < w ∧ w < l then twl l k (w * 2) else w)
      rw [if_pos hc, if_pos hc]
      refine twl_sat l j k (w * 2) (.inr ?_)
      rcases h with h | h
      · omega
      · rw [Int.pow_succ] at h
        rw [Int.mul_assoc, Int.mul_comm 2]; exact h
    · rw [twl_stop l _ w hc, twl_stop l _ w hc]
theorem twice_law {b l k : Int} (hb0 : 0 ≤ b) (hb1 : b ≤ 1099511627776) (h0 : 0 ≤ l) (h1 : l ≤ 1099511627776) (hk : 0 ≤ k) : nx b l 4611686018427387904 k = min (twl l k.toNat b) l := by
  unfold nx
  rw [twice_it h0 h1 _ _ _ (cap_is hb0 hb1) (by omega)]
  have e : (b.toNat : Int) = b := by omega
  rw [e]
  by_cases hk2 : k ≤ 1000
  · have : (min k 1000).toNat = k.toNat := by omega
    rw [this]
  · have s : b ≤ 0 ∨ l ≤ b * 2 ^ 41 := by
      by_cases hb : b ≤ 0
      · exact .inl hb
      · right
        have : (2 : Int) ^ 41 = 2199023255552 := by decide
        rw [this]; omega
    have e1 : (min k 1000).toNat = 41 + 959 := by omega
    have e2 : k.toNat = 41 + (k.toNat - 41) := by omega
    rw [e1, e2, twl_sat l _ 41 b s, twl_sat l _ 41 b s]

set_option maxRecDepth 100000 in
set_option maxHeartbeats 1000000 in
theorem twice_walk (a0 a1 a2 : Int) (w : World) (_ : -9223372036854775808 ≤ a0) (_ : a0 ≤ 9223372036854775807) (_ : -9223372036854775808 ≤ a1) (_ : a1 ≤ 9223372036854775807) (_ : -9223372036854775808 ≤ a2) (hk2 : a2 ≤ 9223372036854775807) :
    Calls Try.prog 3 #[.int .i64 a0, .int .i64 a1, .int .i64 a2] w fun e w' => e = .returned (.bool true) ∧ Below w.heap.size w w' := by
  obtain ⟨b0, b1⟩ := tk_range a0
  obtain ⟨l0, l1⟩ := tk_range a1
  by_cases hk : 0 < a2
  · go_enter Try.func3, Try.ntmps3
    go_wp2_with (first | (go_at_call 19; refine (ticks_any _ _).mono ?_; rintro e w2 ⟨rfl, rfl⟩) | (go_at_call 20; refine (next_ok _ _ _ _ _ _ _ ⟨by omega, by omega, by omega, by omega, by omega⟩).mono ?_; rintro e w1 ⟨rfl, hb⟩))
    have law := Lib.hid (twice_law (k := a2) b0 b1 l0 l1 (by omega))
    go_loop [9, 10] (fun want i => ∃ (W : Int) (n : Nat), (n : Int) ≤ a2 ∧ i = .int .i64 n ∧ want = .int .i64 W ∧ 0 ≤ W ∧ W ≤ 2199023255552 ∧ twl (tk a1) (a2 - n).toNat W = twl (tk a1) (a2 : Int).toNat (tk a0)) (fun _ i => (a2 - intOf i).toNat)
    case atStart => exact ⟨tk a0, 0, by omega, rfl, rfl, b0, by omega, by rw [show a2 - ((0 : Nat) : Int) = a2 from by omega]⟩
    case round =>
      obtain ⟨W, n, hn, rfl, rfl, hw0, hw1, htw⟩ := hrel
      have TW := Lib.hid htw; clear htw
      by_cases hgo : (n : Int) < a2 ∧ 0 < W ∧ W < tk a1
      · obtain ⟨g1, g2, g3⟩ := hgo
        go_wp2
        go_round
        case rel => exact ⟨W * 2, n + 1, by omega, by go_num, by go_num, by omega, by omega, by
          rw [← TW.out]
          have e : (a2 - (n : Int)).toNat = (a2 - ((n + 1 : Nat) : Int)).toNat + 1 := by omega
          rw [e]
          show _ = if 0 < W ∧ W < tk a1 then _ else _
          rw [if_pos ⟨g2, g3⟩]⟩
        case measure => simp [intOf]; omega
      · have hst : twl (tk a1) (a2 - n).toNat W = W := by
          by_cases hnk : (n : Int) < a2
          · exact twl_stop _ _ _ (by omega)
          · have : (a2 - (n : Int)).toNat = 0 := by omega
            rw [this]; rfl
        have hres : nx (tk a0) (tk a1) 4611686018427387904 a2 = min W (tk a1) := by rw [law.out, ← TW.out, hst]
        have hres1 : (nx (tk a0) (tk a1) 4611686018427387904 a2 == if tk a1 < W then tk a1 else W) = true := by
          rw [hres]; simp; split <;> omega
        have hres2 : tk a1 < W → (nx (tk a0) (tk a1) 4611686018427387904 a2 == tk a1) = true := by
          intro h; rw [hres]; simp; omega
        have hres3 : ¬ tk a1 < W → (nx (tk a0) (tk a1) 4611686018427387904 a2 == W) = true := by
          intro h; rw [hres]; simp; omega
        clear hst hres law TW
        go_wp2_with (go_at_call 21; refine (alive12 _).mono ?_; rintro e w3 ⟨rfl, hb3⟩)
        all_goals (go_ret; first | exact ⟨rfl, below_call hb hb.size hb3⟩ | exact ⟨ret_bool (hres2 (by omega)), below_call hb hb.size hb3⟩ | exact ⟨ret_bool (hres3 (by omega)), below_call hb hb.size hb3⟩)
  · go_enter Try.func3, Try.ntmps3
    go_wp2_with (first | (go_at_call 19; refine (ticks_any _ _).mono ?_; rintro e w2 ⟨rfl, rfl⟩) | (go_at_call 20; refine (next_ok _ _ _ _ _ _ _ ⟨by omega, by omega, by omega, by omega, by omega⟩).mono ?_; rintro e w1 ⟨rfl, hb⟩))
    have law := Lib.hid (twice_law (k := 0) b0 b1 l0 l1 (by omega))
    go_loop [9, 10] (fun want i => ∃ (W : Int) (n : Nat), (n : Int) ≤ (0 : Int) ∧ i = .int .i64 n ∧ want = .int .i64 W ∧ 0 ≤ W ∧ W ≤ 2199023255552 ∧ twl (tk a1) ((0 : Int) - n).toNat W = twl (tk a1) (0 : Int).toNat (tk a0)) (fun _ i => ((0 : Int) - intOf i).toNat)
    case atStart => exact ⟨tk a0, 0, by omega, rfl, rfl, b0, by omega, by rw [show (0 : Int) - ((0 : Nat) : Int) = 0 from by omega]⟩
    case round =>
      obtain ⟨W, n, hn, rfl, rfl, hw0, hw1, htw⟩ := hrel
      have TW := Lib.hid htw; clear htw
      by_cases hgo : (n : Int) < (0 : Int) ∧ 0 < W ∧ W < tk a1
      · obtain ⟨g1, g2, g3⟩ := hgo
        go_wp2
        go_round
        case rel => exact ⟨W * 2, n + 1, by omega, by go_num, by go_num, by omega, by omega, by
          rw [← TW.out]
          have e : ((0 : Int) - (n : Int)).toNat = ((0 : Int) - ((n + 1 : Nat) : Int)).toNat + 1 := by omega
          rw [e]
          show _ = if 0 < W ∧ W < tk a1 then _ else _
          rw [if_pos ⟨g2, g3⟩]⟩
        case measure => simp [intOf]; omega
      · have hst : twl (tk a1) ((0 : Int) - n).toNat W = W := by
          by_cases hnk : (n : Int) < (0 : Int)
          · exact twl_stop _ _ _ (by omega)
          · have : ((0 : Int) - (n : Int)).toNat = 0 := by omega
            rw [this]; rfl
        have hres : nx (tk a0) (tk a1) 4611686018427387904 0 = min W (tk a1) := by rw [law.out, ← TW.out, hst]
        have hres1 : (nx (tk a0) (tk a1) 4611686018427387904 0 == if tk a1 < W then tk a1 else W) = true := by
          rw [hres]; simp; split <;> omega
        have hres2 : tk a1 < W → (nx (tk a0) (tk a1) 4611686018427387904 0 == tk a1) = true := by
          intro h; rw [hres]; simp; omega
        have hres3 : ¬ tk a1 < W → (nx (tk a0) (tk a1) 4611686018427387904 0 == W) = true := by
          intro h; rw [hres]; simp; omega
        clear hst hres law TW
        go_wp2_with (go_at_call 21; refine (alive12 _).mono ?_; rintro e w3 ⟨rfl, hb3⟩)
        all_goals (go_ret; first | exact ⟨rfl, below_call hb hb.size hb3⟩ | exact ⟨ret_bool (hres2 (by omega)), below_call hb hb.size hb3⟩ | exact ⟨ret_bool (hres3 (by omega)), below_call hb hb.size hb3⟩)
end Go.Proofs.Ytmollbnhndjjeaa
