/- SenderLives: the walk. -/
import Derived.Test.YtmollbnhndjjeaaSe
namespace Go.Proofs.Ytmollbnhndjjeaa
open Go.RowKit

set_option maxRecDepth 100000 in
set_option maxHeartbeats 4000000 in
theorem lives_walk (a0 a1 a2 bits m0 m1 : Int) (w : World) (_ : -9223372036854775808 ≤ a0) (_ : a0 ≤ 9223372036854775807) (_ : -9223372036854775808 ≤ a1) (_ : a1 ≤ 9223372036854775807) (_ : -9223372036854775808 ≤ a2) (_ : a2 ≤ 9223372036854775807) (_ : 0 ≤ bits) (_ : bits ≤ 18446744073709551615) (hf0 : 0 ≤ m0) (hf1 : m0 ≤ 255) (hr0 : 0 ≤ m1) (hr1 : m1 ≤ 255) :
    Calls Try.prog 7 #[.agg #[.int .i64 a0, .int .i64 a1, .int .i64 a2], .int .u64 bits, .agg #[.int .u8 m0, .int .u8 m1]] w fun e w' => e = .returned (.bool true) ∧ Below w.heap.size w w' := by
  have fair := Lib.hid (cf3_fair a0 a1 a2 bits)
  have FN := Lib.hid (show ∀ k : Int, 0 ≤ k → Fine (kk a0) (kk a1) k from fun k hk => ⟨fair.out.b0, fair.out.c0, hk, fair.out.b1, fair.out.c1⟩)
  go_enter Try.func7, Try.ntmps7
  go_wp2_with fail
  go_region
  go_wp2_with fail
  refine (config_any _ _ _ _ _).mono ?_
  rintro e w1 ⟨rfl, hb⟩
  have B1 : Below w.heap.size w w1 := ((((Below.refl _ _).alloc (Nat.le_refl _) _).alloc (by simp) _).drew).trans (hb.mono (by simp; omega))
  clear hb
  go_wp2_with fail
  have B2 : Below w.heap.size w (w1.alloc (.cells #[.int .i64 0, .int .i64 (kk a0), .int .i64 (kk a1), .int .i64 (1 + kk a2), .float .f64 bits.toNat] 28)) := B1.alloc B1.size _
  have C0 := CfgAt.new w1 0 (kk a0) (kk a1) (1 + kk a2) bits.toNat
  revert B2 C0
  generalize (w1.alloc (.cells #[.int .i64 0, .int .i64 (kk a0), .int .i64 (kk a1), .int .i64 (1 + kk a2), .float .f64 bits.toNat] 28)) = w2
  intro B2 C0
  refine (new_ok (cf3 a0 a1 a2 bits) 0 _ fair.out (by omega) (by omega)).mono ?_
  rintro e w3 ⟨S, rfl, h0, B0, hS⟩
  have H0 : Hid (SndAt w3 S (cf3 a0 a1 a2 bits) ⟨0, 0, 0, 0, 0⟩) := Lib.hid h0
  have B3 := B2.trans (B0.mono B2.size)
  have C3 := Lib.hid (C0.below B0)
  have hCS : w1.heap.size ≠ S := by have := C0.lt; omega
  have hws : w.heap.size ≤ S := by have := B2.size; omega
  clear h0 B0 B2 C0 hS B1
  go_wp2_with fail
  refine (alive16 _).mono ?_
  rintro e w4 ⟨rfl, hb⟩
  have H4 := Lib.hid (H0.out.below hb)
  have C4 := Lib.hid (C3.out.below hb)
  have B4 := below_call B3 B3.size hb
  clear hb H0 C3 B3
  go_wp2_with fail
  refine (offer_walk _ _ _ _ _ H4.out).mono ?_
  rintro e w5 ⟨rfl, h1, k1⟩
  rw [offer_first (by omega) (by omega)] at h1
  have C5 := C4.out.kept k1 hCS
  have B5 := below_kept B4 B4.size k1 hws
  clear k1 H4 C4 B4
  have hK0 : 0 ≤ m1 % 40 := by omega
  have hK1 : m1 % 40 ≤ 39 := by omega
  by_cases hK : 0 < m1 % 40
  · go_wp2_with fail
    go_loopw [55] (fun i wr => ∃ n : Nat, (n : Int) ≤ m0 % 30 ∧ i = .int .i64 n ∧ Below w.heap.size w wr ∧ CfgAt wr w1.heap.size 0 (kk a0) (kk a1) (1 + kk a2) bits.toNat ∧ SndAt wr S (cf3 a0 a1 a2 bits) ⟨0, m1 % 40, 0, 0, n⟩) (fun i _ => 31 - (intOf i).toNat)
    case atStart => exact ⟨0, by omega, rfl, B5, C5, h1⟩
    case round =>
      obtain ⟨n, hn, rfl, hbr, hcr, hsr⟩ := hrel
      clear C5 h1 B5
      have HC := Lib.hid hcr
      have HS := Lib.hid hsr
      clear hcr hsr
      by_cases hnF : (n : Int) < m0 % 30
      · obtain ⟨d0, d1⟩ := Cf.del_range fair.out n
        obtain ⟨D, hD⟩ : ∃ D, (cf3 a0 a1 a2 bits).del n = D := ⟨_, rfl⟩
        rw [hD] at d0 d1
        have hD' : nx (kk a0) (kk a1) bits.toNat n = D := hD
        have HD := Lib.hid hD'
        have HD2 := Lib.hid hD
        clear hD hD'
        go_wp2_with fail
        refine (poll_walk _ _ _ _ HS.out (idle_ok (by omega) (by omega) (by omega) (by omega) (by omega))).mono ?_
        rintro e x1 ⟨rfl, h1, k1⟩
        rw [poll_idle _ hK] at h1
        rw [pollN_idle hK, polls_idle hK]
        have S1 := Lib.hid h1
        have C1 := Lib.hid (HC.out.kept k1 hCS)
        have B1 := below_kept hbr hbr.size k1 hws
        clear h1 k1 HC HS hbr
        go_wp2_with fail
        refine (drop_walk _ _ _ _ S1.out fair.out (fly_ok (by omega) (by omega) (by omega) (by omega) (by omega) fair.out.t0 fair.out.t1)).mono ?_
        rintro e x2 ⟨rfl, h1, k1⟩
        rw [drop_fly, fail_eq _ (by omega), HD2.out] at h1
        have S2 := Lib.hid h1
        have C2 := Lib.hid (C1.out.kept k1 hCS)
        have B2 := below_kept B1 B1.size k1 hws
        clear h1 k1 C1 S1 B1
        obtain ⟨-, c0, c1, c2, c3, c4⟩ := C2.out
        go_wp2_with fail
        refine (next_ok _ _ _ _ _ _ _ (FN.out n (by omega))).mono ?_
        rintro e x3 ⟨rfl, hb⟩
        rw [HD.out]
        have S3 := Lib.hid (S2.out.below hb)
        have C3 := Lib.hid (C2.out.below hb)
        have B3 := below_call B2 B2.size hb
        clear c0 c1 c2 c3 c4 hb S2 C2 B2
        go_wp2_with fail
        refine (left_walk _ _ _ _ S3.out).mono ?_
        rintro e x4 ⟨rfl, rfl⟩
        go_wp2_with fail
        refine (tries_walk _ _ _ _ S3.out).mono ?_
        rintro e x4 ⟨rfl, rfl⟩
        go_wp2_with fail
        refine (tick_walk _ _ _ _ _ (by omega) S3.out fair.out (by have := (fly_ok (p := 0) (k := m1 % 40) (l := (cf3 a0 a1 a2 bits).tmo) (r := n) (by omega) (by omega) (by omega) (by omega) (by omega) fair.out.t0 fair.out.t1).fail fair.out; rwa [fail_eq _ (by omega), HD2.out] at this)).mono ?_
        rintro e x5 ⟨rfl, h1, k1⟩
        rw [tick_rest _ d0] at h1
        have C4 := C3.out.kept k1 hCS
        have B4 := below_kept B3 B3.size k1 hws
        clear k1 C3 S3 B3
        go_wp2_with fail
        go_roundw
        case rel => exact ⟨n + 1, by omega, by go_num, B4, C4, h1⟩
        case measure => simp [intOf]; omega
      · go_wp2_with fail
        obtain ⟨tr, htr, htr2⟩ : ∃ tr : Int, (n : Int) = tr ∧ 0 ≤ tr ∧ tr ≤ 30 := ⟨n, rfl, by omega⟩
        rw [htr] at HS
        clear htr
        obtain ⟨wo, rfl⟩ : ∃ wo : World, wo = wr := ⟨_, rfl⟩
        go_loopw [97] (fun i wq => ∃ j : Nat, (j : Int) ≤ m1 % 40 ∧ i = .int .i64 j ∧ Below w.heap.size w wq ∧ CfgAt wq w1.heap.size 0 (kk a0) (kk a1) (1 + kk a2) bits.toNat ∧ ∃ r : Int, 0 ≤ r ∧ r ≤ 30 ∧ SndAt wq S (cf3 a0 a1 a2 bits) ⟨j, m1 % 40, 0, 0, r⟩) (fun i _ => 41 - (intOf i).toNat)
        case atStart => exact ⟨0, by omega, rfl, hbr, HC.out, tr, htr2.1, htr2.2, HS.out⟩
        case round =>
          obtain ⟨j, hj, rfl, hbq, hcq, r, hr0', hr1', hsq⟩ := hrel
          clear HC HS hbr htr2
          have HC := Lib.hid hcq
          have HS := Lib.hid hsq
          clear hcq hsq
          have tm0 := fair.out.t0
          have tm1 := fair.out.t1
          have etm : (cf3 a0 a1 a2 bits).tmo = 1 + kk a2 := rfl
          rw [etm] at tm0 tm1
          clear etm
          by_cases hjK : (j : Int) < m1 % 40
          · go_wp2_with fail
            refine (poll_walk _ _ _ _ HS.out (idle_ok (by omega) (by omega) (by omega) (by omega) (by omega))).mono ?_
            rintro e x1 ⟨rfl, h1, k1⟩
            rw [poll_idle _ hjK] at h1
            rw [pollN_idle hjK, polls_idle hjK]
            have S1 : Hid (SndAt x1 S (cf3 a0 a1 a2 bits) ⟨j, m1 % 40, 1, 1 + kk a2, r⟩) := Lib.hid h1
            have C1 := Lib.hid (HC.out.kept k1 hCS)
            have B1 := below_kept hbq hbq.size k1 hws
            clear h1 k1 HC HS hbq
            obtain ⟨-, c0, c1, c2, c3, c4⟩ := C1.out
            go_wp2_with fail
            refine (tick_walk _ _ _ _ _ (by omega) S1.out fair.out (fly_ok (by omega) (by omega) (by omega) (by omega) (by omega) (by omega) (by omega))).mono ?_
            rintro e x2 ⟨rfl, h1, k1⟩
            rw [tick_fly _ (by omega) (by omega)] at h1
            have S2 := Lib.hid h1
            have C2 := Lib.hid (C1.out.kept k1 hCS)
            have B2 := below_kept B1 B1.size k1 hws
            clear c0 c1 c2 c3 c4 h1 k1 S1 C1 B1
            go_wp2_with fail
            refine (answer_walk _ _ _ _ _ S2.out fair.out (fly_ok (by omega) (by omega) (by omega) (by omega) (by omega) (by omega) (by omega))).mono ?_
            rintro e x3 ⟨rfl, h1, k1⟩
            rw [answer_right] at h1
            rw [show ((St.mk j (m1 % 40) 1 (1 + kk a2 - (1 + kk a2 - 1)) r).fly && true) = true from rfl]
            have S3 := Lib.hid h1
            have C3 := Lib.hid (C2.out.kept k1 hCS)
            have B3 := below_kept B2 B2.size k1 hws
            clear h1 k1 S2 C2 B2
            go_wp2_with fail
            refine (tries_walk _ _ _ _ S3.out).mono ?_
            rintro e x4 ⟨rfl, rfl⟩
            go_wp2_with fail
            go_roundw
            case rel => exact ⟨j + 1, by omega, by go_num, B3, C3.out, 0, by omega, by omega, S3.out⟩
            case measure => simp [intOf]; omega
          · have e : (j : Int) = m1 % 40 := by omega
            rw [e] at HS
            clear e
            go_wp2_with fail
            refine (poll_walk _ _ _ _ HS.out (idle_ok (by omega) (by omega) (by omega) (by omega) (by omega))).mono ?_
            rintro e x1 ⟨rfl, h1, k1⟩
            rw [poll_end _ (by omega)] at h1
            rw [pollN_end (by omega), polls_end (by omega)]
            have S1 := Lib.hid h1
            have B1 := below_kept hbq hbq.size k1 hws
            clear h1 k1 HC HS hbq
            go_wp2_with fail
            refine (at_walk _ _ _ _ S1.out).mono ?_
            rintro e x2 ⟨rfl, rfl⟩
            go_wp2_with fail
            go_ret
            exact ⟨rfl, B1⟩
  · have hKle : m1 % 40 ≤ 0 := by omega
    go_wp2_with fail
    go_loopw [55] (fun i wr => ∃ n : Nat, (n : Int) ≤ m0 % 30 ∧ i = .int .i64 n ∧ Below w.heap.size w wr ∧ CfgAt wr w1.heap.size 0 (kk a0) (kk a1) (1 + kk a2) bits.toNat ∧ SndAt wr S (cf3 a0 a1 a2 bits) ⟨0, m1 % 40, 0, 0, 0⟩) (fun i _ => 31 - (intOf i).toNat)
    case atStart => exact ⟨0, by omega, rfl, B5, C5, h1⟩
    case round =>
      obtain ⟨n, hn, rfl, hbr, hcr, hsr⟩ := hrel
      clear C5 h1 B5
      have HC := Lib.hid hcr
      have HS := Lib.hid hsr
      clear hcr hsr
      by_cases hnF : (n : Int) < m0 % 30
      · obtain ⟨d0, d1⟩ := Cf.del_range fair.out n
        obtain ⟨D, hD⟩ : ∃ D, (cf3 a0 a1 a2 bits).del n = D := ⟨_, rfl⟩
        rw [hD] at d0 d1
        have hD' : nx (kk a0) (kk a1) bits.toNat n = D := hD
        have HD := Lib.hid hD'
        clear hD hD'
        go_wp2_with fail
        refine (poll_walk _ _ _ _ HS.out (idle_ok (by omega) (by omega) (by omega) (by omega) (by omega))).mono ?_
        rintro e x1 ⟨rfl, h1, k1⟩
        rw [poll_end _ (by omega)] at h1
        rw [pollN_end (by omega), polls_end (by omega)]
        have S1 := Lib.hid h1
        have C1 := Lib.hid (HC.out.kept k1 hCS)
        have B1 := below_kept hbr hbr.size k1 hws
        clear h1 k1 HC HS hbr
        go_wp2_with fail
        refine (drop_walk _ _ _ _ S1.out fair.out (idle_ok (by omega) (by omega) (by omega) (by omega) (by omega))).mono ?_
        rintro e x2 ⟨rfl, h1, k1⟩
        rw [drop_idle] at h1
        have S2 := Lib.hid h1
        have C2 := Lib.hid (C1.out.kept k1 hCS)
        have B2 := below_kept B1 B1.size k1 hws
        clear h1 k1 C1 S1 B1
        obtain ⟨-, c0, c1, c2, c3, c4⟩ := C2.out
        go_wp2_with fail
        refine (next_ok _ _ _ _ _ _ _ (FN.out n (by omega))).mono ?_
        rintro e x3 ⟨rfl, hb⟩
        rw [HD.out]
        have S3 := Lib.hid (S2.out.below hb)
        have C3 := Lib.hid (C2.out.below hb)
        have B3 := below_call B2 B2.size hb
        clear c0 c1 c2 c3 c4 hb S2 C2 B2
        go_wp2_with fail
        refine (tick_walk _ _ _ _ _ (by omega) S3.out fair.out (idle_ok (by omega) (by omega) (by omega) (by omega) (by omega))).mono ?_
        rintro e x5 ⟨rfl, h1, k1⟩
        rw [tick_idle] at h1
        have C4 := C3.out.kept k1 hCS
        have B4 := below_kept B3 B3.size k1 hws
        clear k1 C3 S3 B3
        go_wp2_with fail
        go_roundw
        case rel => exact ⟨n + 1, by omega, by go_num, B4, C4, h1⟩
        case measure => simp [intOf]; omega
      · go_wp2_with fail
        obtain ⟨wo, rfl⟩ : ∃ wo : World, wo = wr := ⟨_, rfl⟩
        go_loopw [97] (fun i wq => ∃ j : Nat, (j : Int) ≤ m1 % 40 ∧ i = .int .i64 j ∧ Below w.heap.size w wq ∧ SndAt wq S (cf3 a0 a1 a2 bits) ⟨0, m1 % 40, 0, 0, 0⟩) (fun i _ => 41 - (intOf i).toNat)
        case atStart => exact ⟨0, by omega, rfl, hbr, HS.out⟩
        case round =>
          obtain ⟨j, hj, rfl, hbq, hsq⟩ := hrel
          clear HC HS hbr
          have HS := Lib.hid hsq
          clear hsq
          go_wp2_with fail
          refine (poll_walk _ _ _ _ HS.out (idle_ok (by omega) (by omega) (by omega) (by omega) (by omega))).mono ?_
          rintro e x1 ⟨rfl, h1, k1⟩
          rw [poll_end _ (by omega)] at h1
          rw [pollN_end (by omega), polls_end (by omega)]
          have S1 := Lib.hid h1
          have B1 := below_kept hbq hbq.size k1 hws
          clear h1 k1 HS hbq
          go_wp2_with fail
          refine (at_walk _ _ _ _ S1.out).mono ?_
          rintro e x2 ⟨rfl, rfl⟩
          have hz : ((0 : Int) == m1 % 40) = true := by simp; omega
          go_wp2_with fail
          go_ret
          exact ⟨rfl, B1⟩
end Go.Proofs.Ytmollbnhndjjeaa
