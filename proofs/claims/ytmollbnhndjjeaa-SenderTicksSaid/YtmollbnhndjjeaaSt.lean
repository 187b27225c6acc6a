/- SenderTicks: the plain law, the walk. -/
import Derived.Test.YtmollbnhndjjeaaSe
namespace Go.Proofs.Ytmollbnhndjjeaa
open Go.RowKit

/-- At rest. -/
def atRest (e : Int) : St := ⟨0, 1, if e = 0 then 0 else 2, e, 1⟩
/-- Where it stands so many ticks behind its first poll. -/
def TT (c : Cf) (j : Int) : St := if j < c.tmo then ⟨0, 1, 1, c.tmo - j, 0⟩ else atRest (max 0 (c.del 0 - (j - c.tmo)))

theorem lapse_rest {e m : Int} (h0 : 0 ≤ e) (hm : 0 ≤ m) : (atRest e).lapse m = atRest (max 0 (e - m)) := by
  by_cases h : e = 0
  · subst h
    have : max 0 (0 - m) = 0 := by omega
    rw [this]; rfl
  · unfold St.lapse
    have hk : (atRest e).kind = 2 := if_neg h
    rw [if_pos hk]; rfl
theorem tick_atRest (c : Cf) {e m : Int} (h0 : 0 ≤ e) (hm : 0 ≤ m) : (atRest e).tick c m = atRest (max 0 (e - m)) := by
  unfold St.tick
  rw [if_neg (by omega), if_neg, lapse_rest h0 hm]
  show ¬ (if e = 0 then (0 : Int) else 2) = 1
  split <;> decide
theorem fail_first (c : Cf) {l : Int} : (St.mk 0 1 1 l 0).fail c = atRest (c.del 0) := by
  rw [fail_eq _ (by omega)]; rfl
theorem TT_all (c : Cf) (hc : c.Fair) {j : Int} (hj : 0 ≤ j) : (St.mk 0 1 1 c.tmo 0).tick c j = TT c j := by
  obtain ⟨d0, d1⟩ := Cf.del_range hc 0
  unfold TT
  by_cases h : j < c.tmo
  · rw [if_pos h, tick_fly _ hj h]
  · rw [if_neg h, tick_over _ hj (by omega), fail_first, lapse_rest d0 (by omega)]
theorem TT_one (c : Cf) (hc : c.Fair) {j : Int} : (TT c j).tick c 1 = TT c (j + 1) := by
  obtain ⟨d0, d1⟩ := Cf.del_range hc 0
  unfold TT
  by_cases h : j < c.tmo
  · rw [if_pos h]
    by_cases h2 : j + 1 < c.tmo
    · rw [if_pos h2, tick_fly _ (by omega) (by omega), show c.tmo - j - 1 = c.tmo - (j + 1) from by omega]
    · rw [if_neg h2, tick_over _ (by omega) (by omega), fail_first, lapse_rest d0 (by omega), show 1 - (c.tmo - j) = j + 1 - c.tmo from by omega]
  · rw [if_neg h, if_neg (by omega), tick_atRest _ (by omega) (by omega)]
    congr 1; omega
theorem TT_zero (c : Cf) (hc : c.Fair) : TT c 0 = ⟨0, 1, 1, c.tmo, 0⟩ := by
  unfold TT
  have := hc.t0
  rw [if_pos (by omega), show c.tmo - 0 = c.tmo from by omega]
theorem TT_ok (c : Cf) (hc : c.Fair) {j : Int} (hj : 0 ≤ j) : (TT c j).Ok := by
  rw [← TT_all c hc hj]
  exact St.Ok.tick hc (fly_ok (by omega) (by omega) (by omega) (by omega) (by omega) hc.t0 hc.t1)

set_option maxRecDepth 100000 in
set_option maxHeartbeats 4000000 in
theorem ticks16_walk (a0 a1 a2 bits k : Int) (w : World) (_ : -9223372036854775808 ≤ a0) (_ : a0 ≤ 9223372036854775807) (_ : -9223372036854775808 ≤ a1) (_ : a1 ≤ 9223372036854775807) (_ : -9223372036854775808 ≤ a2) (_ : a2 ≤ 9223372036854775807) (_ : 0 ≤ bits) (_ : bits ≤ 18446744073709551615) (hk0 : 0 ≤ k) (hk1 : k ≤ 65535) :
    Calls Try.prog 15 #[.agg #[.int .i64 a0, .int .i64 a1, .int .i64 a2], .int .u64 bits, .int .u16 k] w fun e w' => e = .returned (.bool true) ∧ Below w.heap.size w w' := by
  go_enter Try.func15, Try.ntmps15
  go_wp2_with fail
  generalize wrap64 ((IntKind.u64.wrap a0).tmod 500) = y0
  generalize wrap64 ((IntKind.u64.wrap a1).tmod 500) = y1
  generalize wrap64 ((IntKind.u64.wrap a2).tmod 500) = y2
  have fair := Lib.hid (cf3_fair y0 y1 y2 bits)
  refine (config_any _ _ _ _ _).mono ?_
  rintro e w1 ⟨rfl, hb⟩
  have B1 : Below w.heap.size w w1 := ((Below.refl _ _).alloc (Nat.le_refl _) _).trans (hb.mono (by simp))
  clear hb
  go_wp2_with fail
  have B2 : Below w.heap.size w (w1.alloc (.cells #[.int .i64 0, .int .i64 (kk y0), .int .i64 (kk y1), .int .i64 (1 + kk y2), .float .f64 bits.toNat] 28)) := B1.alloc B1.size _
  have C0 := CfgAt.new w1 0 (kk y0) (kk y1) (1 + kk y2) bits.toNat
  revert B2 C0
  generalize (w1.alloc (.cells #[.int .i64 0, .int .i64 (kk y0), .int .i64 (kk y1), .int .i64 (1 + kk y2), .float .f64 bits.toNat] 28)) = w2
  intro B2 C0
  refine (new_ok (cf3 y0 y1 y2 bits) 0 _ fair.out (by omega) (by omega)).mono ?_
  rintro e w3 ⟨S, rfl, h0, B0, hS⟩
  have H0 : Hid (SndAt w3 S (cf3 y0 y1 y2 bits) ⟨0, 0, 0, 0, 0⟩) := Lib.hid h0
  have B3 := B2.trans (B0.mono B2.size)
  have C3 := Lib.hid (C0.below B0)
  have hws : w.heap.size ≤ S := by have := B2.size; omega
  clear h0 B0 B2 C0 hS B1
  obtain ⟨-, c0, c1, c2, c3, c4⟩ := C3.out
  go_wp2_with fail
  refine (new_ok (cf3 y0 y1 y2 bits) 0 _ fair.out (by omega) (by omega)).mono ?_
  rintro e w4 ⟨T, rfl, h1, B0, hT⟩
  have H1 : Hid (SndAt w4 T (cf3 y0 y1 y2 bits) ⟨0, 0, 0, 0, 0⟩) := Lib.hid h1
  have hST : S ≠ T := by have := H0.out.lt; omega
  have H0' := Lib.hid (H0.out.below B0)
  have B4 := below_call B3 B3.size B0
  have hwt : w.heap.size ≤ T := by have := B3.size; omega
  clear c0 c1 c2 c3 c4 h1 H0 C3 B3 hT B0
  go_wp2_with fail
  refine (alive16 _).mono ?_
  rintro e w5 ⟨rfl, hb⟩
  have S5 := Lib.hid (H0'.out.below hb)
  have T5 := Lib.hid (H1.out.below hb)
  have B5 := below_call B4 B4.size hb
  clear hb H0' H1 B4
  go_wp2_with fail
  refine (offer_walk _ _ _ _ _ S5.out).mono ?_
  rintro e w6 ⟨rfl, h1, k1⟩
  rw [offer_first (by omega) (by omega)] at h1
  have S6 := Lib.hid h1
  have T6 := Lib.hid (T5.out.kept k1 (Ne.symm hST))
  have B6 := below_kept B5 B5.size k1 hws
  clear h1 k1 S5 T5 B5
  go_wp2_with fail
  refine (offer_walk _ _ _ _ _ T6.out).mono ?_
  rintro e w7 ⟨rfl, h1, k1⟩
  rw [offer_first (by omega) (by omega)] at h1
  have T7 := Lib.hid h1
  have S7 := Lib.hid (S6.out.kept k1 hST)
  have B7 := below_kept B6 B6.size k1 hwt
  clear h1 k1 S6 T6 B6
  go_wp2_with fail
  refine (poll_walk _ _ _ _ S7.out (idle_ok (by omega) (by omega) (by omega) (by omega) (by omega))).mono ?_
  rintro e w8 ⟨rfl, h1, k1⟩
  rw [poll_idle _ (by omega)] at h1
  have S8 := Lib.hid h1
  have T8 := Lib.hid (T7.out.kept k1 (Ne.symm hST))
  have B8 := below_kept B7 B7.size k1 hws
  clear h1 k1 S7 T7 B7
  go_wp2_with fail
  refine (poll_walk _ _ _ _ T8.out (idle_ok (by omega) (by omega) (by omega) (by omega) (by omega))).mono ?_
  rintro e w9 ⟨rfl, h1, k1⟩
  rw [poll_idle _ (by omega)] at h1
  have T9 := Lib.hid h1
  have S9 := Lib.hid (S8.out.kept k1 hST)
  have B9 := below_kept B8 B8.size k1 hwt
  clear h1 k1 S8 T8 B8
  go_wp2_with fail
  refine (tick_walk _ _ _ _ _ (by omega) S9.out fair.out (fly_ok (by omega) (by omega) (by omega) (by omega) (by omega) fair.out.t0 fair.out.t1)).mono ?_
  rintro e w10 ⟨rfl, h1, k1⟩
  rw [TT_all _ fair.out (by omega)] at h1
  have S10 := Lib.hid h1
  have T10 := Lib.hid (T9.out.kept k1 (Ne.symm hST))
  have B10 := below_kept B9 B9.size k1 hws
  clear h1 k1 S9 T9 B9
  go_wp2_with fail
  go_loopw [75] (fun i wr => ∃ n : Nat, (n : Int) ≤ k % 2000 ∧ i = .int .i64 n ∧ Below w.heap.size w wr ∧ SndAt wr S (cf3 y0 y1 y2 bits) (TT (cf3 y0 y1 y2 bits) (k % 2000)) ∧ SndAt wr T (cf3 y0 y1 y2 bits) (TT (cf3 y0 y1 y2 bits) n)) (fun i _ => 2001 - (intOf i).toNat)
  case atStart => exact ⟨0, by omega, rfl, B10, S10.out, by rw [show ((0 : Nat) : Int) = 0 from rfl, TT_zero _ fair.out]; exact T10.out⟩
  case round =>
    obtain ⟨n, hn, rfl, hbr, hs, ht⟩ := hrel
    clear S10 T10 B10
    have HS := Lib.hid hs
    have HT := Lib.hid ht
    clear hs ht
    by_cases hnK : (n : Int) < k % 2000
    · go_wp2_with fail
      refine (tick_walk _ _ _ _ _ (by omega) HT.out fair.out (TT_ok _ fair.out (by omega))).mono ?_
      rintro e x1 ⟨rfl, h1, k1⟩
      rw [TT_one _ fair.out] at h1
      have S1 := HS.out.kept k1 hST
      have B1 := below_kept hbr hbr.size k1 hwt
      clear k1 HS HT hbr
      go_wp2_with fail
      go_roundw
      case rel => exact ⟨n + 1, by omega, by go_num, B1, S1, h1⟩
      case measure => simp [intOf]; omega
    · have e : (n : Int) = k % 2000 := by omega
      rw [e] at HT
      clear e
      obtain ⟨Z, hZ⟩ : ∃ Z, TT (cf3 y0 y1 y2 bits) (k % 2000) = Z := ⟨_, rfl⟩
      rw [hZ] at HS HT
      clear hZ
      go_wp2_with fail
      refine (at_walk _ _ _ _ HS.out).mono ?_
      rintro e x2 ⟨rfl, rfl⟩
      go_wp2_with fail
      refine (at_walk _ _ _ _ HT.out).mono ?_
      rintro e x2 ⟨rfl, rfl⟩
      go_wp2_with fail
      refine (flying_walk _ _ _ _ HS.out).mono ?_
      rintro e x2 ⟨rfl, rfl⟩
      go_wp2_with fail
      refine (flying_walk _ _ _ _ HT.out).mono ?_
      rintro e x2 ⟨rfl, rfl⟩
      go_wp2_with fail
      refine (left_walk _ _ _ _ HS.out).mono ?_
      rintro e x2 ⟨rfl, rfl⟩
      go_wp2_with fail
      refine (left_walk _ _ _ _ HT.out).mono ?_
      rintro e x2 ⟨rfl, rfl⟩
      go_wp2_with fail
      refine (tries_walk _ _ _ _ HS.out).mono ?_
      rintro e x2 ⟨rfl, rfl⟩
      go_wp2_with fail
      refine (tries_walk _ _ _ _ HT.out).mono ?_
      rintro e x2 ⟨rfl, rfl⟩
      go_wp2_with fail
      go_ret
      exact ⟨rfl, hbr⟩
end Go.Proofs.Ytmollbnhndjjeaa
