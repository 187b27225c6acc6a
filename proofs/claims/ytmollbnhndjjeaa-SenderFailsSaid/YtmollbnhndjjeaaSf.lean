/- SenderFails: the walk. -/
import Derived.Test.YtmollbnhndjjeaaSe
import Derived.Test.YtmollbnhndjjeaaFr
namespace Go.Proofs.Ytmollbnhndjjeaa
open Go.RowKit

theorem left_same (S : Nat) (c : Cf) (s : St) (w : World) (h : SndAt w S c s) :
    Calls Try.prog 30 #[.pointer (some ⟨S, 0, none⟩)] w fun e w' => e = .returned (.int .i64 s.left) ∧ w' = w := (left_walk S c s w h).mono fun _ _ h => ⟨h.1, h.2.symm⟩
theorem lapse_zero {p k D r : Int} (h0 : 0 ≤ D) : (St.mk p k (if D = 0 then 0 else 2) D r).lapse 0 = ⟨p, k, if D = 0 then 0 else 2, D, r⟩ := by
  by_cases h : D = 0
  · subst h; rfl
  · rw [if_neg h]
    unfold St.lapse
    show (if (2 : Int) = 2 then St.rest _ (max 0 (D - 0)) else _) = _
    rw [if_pos rfl, show max 0 (D - 0) = D from by omega, St.rest_pos _ h]
theorem fly_fail {p k D r : Int} : (St.mk p k (if D = 0 then 0 else 2) D r).fly = false := by
  unfold St.fly
  show ((if D = 0 then (0 : Int) else 2) == 1) = false
  split <;> rfl
theorem rest_ok {p k D r : Int} (h0 : 0 ≤ p) (h1 : p ≤ k) (h2 : k ≤ 1099511627776) (h3 : 0 ≤ r) (h4 : r ≤ 1099511627776) (h5 : 0 ≤ D) (h6 : D ≤ 1099511627776) : (St.mk p k (if D = 0 then 0 else 2) D r).Ok := by
  have h := St.Ok.rest (s := ⟨p, k, 0, 0, r⟩) (idle_ok h0 h1 h2 h3 h4) h5 h6
  exact h

set_option maxRecDepth 100000 in
set_option maxHeartbeats 4000000 in
theorem fails_walk (a0 a1 a2 bits : Int) (ha : Option Addr) (len cap : Nat) (zs : List Int) (w : World) (_ : -9223372036854775808 ≤ a0) (_ : a0 ≤ 9223372036854775807) (_ : -9223372036854775808 ≤ a1) (_ : a1 ≤ 9223372036854775807) (_ : -9223372036854775808 ≤ a2) (_ : a2 ≤ 9223372036854775807) (_ : 0 ≤ bits) (_ : bits ≤ 18446744073709551615) (hi : Fr.IsInts .u8 w ha len cap zs) :
    Calls Try.prog 9 #[.agg #[.int .i64 a0, .int .i64 a1, .int .i64 a2], .int .u64 bits, .slice ha len cap] w fun e w' => e = .returned (.bool true) ∧ Below w.heap.size w w' := by
  obtain ⟨hz, hlc, hcm, hwf, hcell⟩ := hi
  have hlm : len ≤ 9223372036854775807 := by unfold maxLen at hcm; omega
  have HZ := Lib.hid hz
  have HW := Lib.hid hwf
  have HX := Lib.hid hcell
  clear hz hcell hwf hlc hcm
  have fair := Lib.hid (cf3_fair a0 a1 a2 bits)
  have FN := Lib.hid (show ∀ k : Int, 0 ≤ k → Fine (kk a0) (kk a1) k from fun k hk => ⟨fair.out.b0, fair.out.c0, hk, fair.out.b1, fair.out.c1⟩)
  go_enter Try.func9, Try.ntmps9
  go_wp2_with fail
  refine (config_any _ _ _ _ _).mono ?_
  rintro e w1 ⟨rfl, hb⟩
  have B1 : Below w.heap.size w w1 := ((Below.refl _ _).alloc (Nat.le_refl _) _).trans (hb.mono (by simp))
  clear hb
  go_wp2_with fail
  have B2 : Below w.heap.size w (w1.alloc (.cells #[.int .i64 0, .int .i64 (kk a0), .int .i64 (kk a1), .int .i64 (1 + kk a2), .float .f64 bits.toNat] 28)) := B1.alloc B1.size _
  have C0 := CfgAt.new w1 0 (kk a0) (kk a1) (1 + kk a2) bits.toNat
  revert B2 C0
  generalize (w1.alloc (.cells #[.int .i64 0, .int .i64 (kk a0), .int .i64 (kk a1), .int .i64 (1 + kk a2), .float .f64 bits.toNat] 28)) = w2
  intro B2 C0
  refine (new_ok (cf3 a0 a1 a2 bits) 0 _ fair.out (by omega) (by omega)).mono ?_
  rintro e w3 ⟨S, rfl, h0, B0, hS⟩
  have H0 : Hid (SndAt w3 S (cf3 a0 a1 a2 bits) ⟨0, 0, 0, 0, 0⟩) := Lib.hid h0
  have B3 := B2.trans (B0.mono B2.size)
  have C3 := Lib.hid (C0.below B0)
  have hCS : w1.heap.size ≠ S := by have := C0.lt; omega
  have hws : w.heap.size ≤ S := by have := B2.size; omega
  clear h0 B0 B2 C0 hS B1
  go_wp2_with fail
  refine (alive16 _).mono ?_
  rintro e w4 ⟨rfl, hb⟩
  have H4 := Lib.hid (H0.out.below hb)
  have C4 := Lib.hid (C3.out.below hb)
  have B4 := below_call B3 B3.size hb
  clear hb H0 C3 B3
  by_cases hl : 50 < len
  · go_wp2_with fail
    refine (alive16 _).mono ?_
    rintro e w5 ⟨rfl, hb⟩
    have B5 := below_call B4 B4.size hb
    clear hb
    go_wp2_with fail
    go_ret
    exact ⟨rfl, B5⟩
  · go_wp2_with fail
    refine (offer_walk _ _ _ _ _ H4.out).mono ?_
    rintro e w5 ⟨rfl, h1, k1⟩
    rw [offer_first (by omega) (by omega)] at h1
    have C5 := C4.out.kept k1 hCS
    have B5 := below_kept B4 B4.size k1 hws
    clear k1 H4 C4 B4
    go_wp2_with fail
    go_loopw [44] (fun i wr => ∃ n : Nat, n ≤ len ∧ i = .int .i64 n ∧ Below w.heap.size w wr ∧ CfgAt wr w1.heap.size 0 (kk a0) (kk a1) (1 + kk a2) bits.toNat ∧ SndAt wr S (cf3 a0 a1 a2 bits) ⟨0, 1, 0, 0, n⟩) (fun i _ => 51 - (intOf i).toNat)
    case atStart => exact ⟨0, by omega, rfl, B5, C5, h1⟩
    case round =>
      obtain ⟨n, hn, rfl, hbr, hcr, hsr⟩ := hrel
      clear C5 h1 B5
      have HC := Lib.hid hcr
      have HS := Lib.hid hsr
      clear hcr hsr
      by_cases hnL : n < len
      · obtain ⟨b, o, rfl, hbw, hx⟩ := HX.out (by omega)
        have hcell : wr.cell? ⟨b, o + n, none⟩ = some (.int .u8 (zs.getD n 0)) := by rw [hbr.cell (p := ⟨b, o + n, none⟩) hbw]; exact hx n hnL
        obtain ⟨x, hxx⟩ : ∃ x, zs.getD n 0 = x := ⟨_, rfl⟩
        rw [hxx] at hcell
        have x01 : 0 ≤ x ∧ x ≤ 255 := by
          refine bounds_u8 (HW.out x ?_)
          rw [← hxx, List.getD_eq_getElem?_getD, List.getElem?_eq_getElem (by rw [HZ.out]; exact hnL)]
          exact List.getElem_mem _
        obtain ⟨xlo, xhi⟩ := x01
        clear hx hxx
        obtain ⟨d0, d1⟩ := Cf.del_range fair.out n
        obtain ⟨D, hD⟩ : ∃ D, (cf3 a0 a1 a2 bits).del n = D := ⟨_, rfl⟩
        rw [hD] at d0 d1
        have hD' : nx (kk a0) (kk a1) bits.toNat n = D := hD
        have HD := Lib.hid hD'
        have HD2 := Lib.hid hD
        clear hD hD'
        have hno : (n : Int) + 1 ≤ 51 := by omega
        go_wp2_with fail
        refine (poll_walk _ _ _ _ HS.out (idle_ok (by omega) (by omega) (by omega) (by omega) (by omega))).mono ?_
        rintro e x1 ⟨rfl, h1, k1⟩
        rw [poll_idle _ (by omega)] at h1
        rw [pollN_idle (by omega), polls_idle (by omega)]
        have S1 : Hid (SndAt x1 S (cf3 a0 a1 a2 bits) ⟨0, 1, 1, 1 + kk a2, n⟩) := Lib.hid h1
        have C1 := Lib.hid (HC.out.kept k1 hCS)
        have B1 := below_kept hbr hbr.size k1 hws
        clear h1 k1 HC HS hbr hcell
        obtain ⟨-, c0, c1, c2, c3, c4⟩ := C1.out
        go_wp2_with fail
        go_quiet ((go_at_call 30; exact Calls.quiet_of_same (left_same _ _ _ _ S1.out)))
        have hdr : Below x1.heap.size x1 (x1.drewN nq) := Joins.below_draws _ _ _
        have S1' := Lib.hid (S1.out.below hdr)
        have C1' := Lib.hid (C1.out.below hdr)
        have B1' := below_call B1 B1.size hdr
        clear c0 c1 c2 c3 c4 S1 C1 B1 hdr
        revert S1' C1' B1'
        generalize x1.drewN nq = x1
        intro S1 C1 B1
        obtain ⟨-, c0, c1, c2, c3, c4⟩ := C1.out
        have h3 : x % 3 = 0 ∨ x % 3 = 1 ∨ x % 3 = 2 := by omega
        have tm0 := fair.out.t0
        have tm1 := fair.out.t1
        have etm : (cf3 a0 a1 a2 bits).tmo = 1 + kk a2 := rfl
        rw [etm] at tm0 tm1
        clear etm
        rcases h3 with h3 | h3 | h3
        · have q0 : (x % 3 == 0) = true := by simp [h3]
          clear h3
          go_wp2_with fail
          refine (answer_walk _ _ _ _ _ S1.out fair.out (fly_ok (by omega) (by omega) (by omega) (by omega) (by omega) (by omega) (by omega))).mono ?_
          rintro e x2 ⟨rfl, h1, k1⟩
          rw [answer_wrong, fail_eq _ (by omega), HD2.out] at h1
          have S2 := Lib.hid h1
          have C2 := Lib.hid (C1.out.kept k1 hCS)
          have B2 := below_kept B1 B1.size k1 hws
          clear h1 k1 C1 S1 B1 c0 c1 c2 c3 c4
          obtain ⟨-, c0, c1, c2, c3, c4⟩ := C2.out
          go_wp2_with fail
          refine (next_ok _ _ _ _ _ _ _ (FN.out n (by omega))).mono ?_
          rintro e x3 ⟨rfl, hb⟩
          rw [HD.out]
          have S3 := Lib.hid (S2.out.below hb)
          have C3 := Lib.hid (C2.out.below hb)
          have B3 := below_call B2 B2.size hb
          clear c0 c1 c2 c3 c4 hb S2 C2 B2
          go_wp2_with fail
          refine (flying_walk _ _ _ _ S3.out).mono ?_
          rintro e x4 ⟨rfl, rfl⟩
          rw [fly_fail]
          go_wp2_with fail
          refine (left_walk _ _ _ _ S3.out).mono ?_
          rintro e x4 ⟨rfl, rfl⟩
          go_wp2_with fail
          refine (tries_walk _ _ _ _ S3.out).mono ?_
          rintro e x4 ⟨rfl, rfl⟩
          go_wp2_with fail
          refine (tick_walk _ _ _ _ _ (by omega) S3.out fair.out (rest_ok (by omega) (by omega) (by omega) (by omega) (by omega) d0 d1)).mono ?_
          rintro e x5 ⟨rfl, h1, k1⟩
          rw [tick_rest _ d0] at h1
          have C4 := C3.out.kept k1 hCS
          have B4 := below_kept B3 B3.size k1 hws
          clear k1 C3 S3 B3
          go_wp2_with fail
          go_roundw
          case rel => exact ⟨n + 1, by omega, by go_num, B4, C4, h1⟩
          case measure => simp [intOf]; omega
        · have q0 : (x % 3 == 0) = false := by simp [h3]
          have q1 : (x % 3 == 1) = true := by simp [h3]
          clear h3
          go_wp2_with fail
          refine (tick_walk _ _ _ _ _ (by omega) S1.out fair.out (fly_ok (by omega) (by omega) (by omega) (by omega) (by omega) (by omega) (by omega))).mono ?_
          rintro e x2 ⟨rfl, h1, k1⟩
          rw [tick_over _ (by omega) (by omega), fail_eq _ (by omega), HD2.out, show 1 + kk a2 - (1 + kk a2) = 0 from by omega, lapse_zero d0] at h1
          have S2 := Lib.hid h1
          have C2 := Lib.hid (C1.out.kept k1 hCS)
          have B2 := below_kept B1 B1.size k1 hws
          clear h1 k1 C1 S1 B1 c0 c1 c2 c3 c4
          obtain ⟨-, c0, c1, c2, c3, c4⟩ := C2.out
          go_wp2_with fail
          refine (next_ok _ _ _ _ _ _ _ (FN.out n (by omega))).mono ?_
          rintro e x3 ⟨rfl, hb⟩
          rw [HD.out]
          have S3 := Lib.hid (S2.out.below hb)
          have C3 := Lib.hid (C2.out.below hb)
          have B3 := below_call B2 B2.size hb
          clear c0 c1 c2 c3 c4 hb S2 C2 B2
          go_wp2_with fail
          refine (flying_walk _ _ _ _ S3.out).mono ?_
          rintro e x4 ⟨rfl, rfl⟩
          rw [fly_fail]
          go_wp2_with fail
          refine (left_walk _ _ _ _ S3.out).mono ?_
          rintro e x4 ⟨rfl, rfl⟩
          go_wp2_with fail
          refine (tries_walk _ _ _ _ S3.out).mono ?_
          rintro e x4 ⟨rfl, rfl⟩
          go_wp2_with fail
          refine (tick_walk _ _ _ _ _ (by omega) S3.out fair.out (rest_ok (by omega) (by omega) (by omega) (by omega) (by omega) d0 d1)).mono ?_
          rintro e x5 ⟨rfl, h1, k1⟩
          rw [tick_rest _ d0] at h1
          have C4 := C3.out.kept k1 hCS
          have B4 := below_kept B3 B3.size k1 hws
          clear k1 C3 S3 B3
          go_wp2_with fail
          go_roundw
          case rel => exact ⟨n + 1, by omega, by go_num, B4, C4, h1⟩
          case measure => simp [intOf]; omega
        · have q0 : (x % 3 == 0) = false := by simp [h3]
          have q1 : (x % 3 == 1) = false := by simp [h3]
          clear h3
          go_wp2_with fail
          refine (drop_walk _ _ _ _ S1.out fair.out (fly_ok (by omega) (by omega) (by omega) (by omega) (by omega) (by omega) (by omega))).mono ?_
          rintro e x2 ⟨rfl, h1, k1⟩
          rw [drop_fly, fail_eq _ (by omega), HD2.out] at h1
          have S2 := Lib.hid h1
          have C2 := Lib.hid (C1.out.kept k1 hCS)
          have B2 := below_kept B1 B1.size k1 hws
          clear h1 k1 C1 S1 B1 c0 c1 c2 c3 c4
          obtain ⟨-, c0, c1, c2, c3, c4⟩ := C2.out
          go_wp2_with fail
          refine (next_ok _ _ _ _ _ _ _ (FN.out n (by omega))).mono ?_
          rintro e x3 ⟨rfl, hb⟩
          rw [HD.out]
          have S3 := Lib.hid (S2.out.below hb)
          have C3 := Lib.hid (C2.out.below hb)
          have B3 := below_call B2 B2.size hb
          clear c0 c1 c2 c3 c4 hb S2 C2 B2
          go_wp2_with fail
          refine (flying_walk _ _ _ _ S3.out).mono ?_
          rintro e x4 ⟨rfl, rfl⟩
          rw [fly_fail]
          go_wp2_with fail
          refine (left_walk _ _ _ _ S3.out).mono ?_
          rintro e x4 ⟨rfl, rfl⟩
          go_wp2_with fail
          refine (tries_walk _ _ _ _ S3.out).mono ?_
          rintro e x4 ⟨rfl, rfl⟩
          go_wp2_with fail
          refine (tick_walk _ _ _ _ _ (by omega) S3.out fair.out (rest_ok (by omega) (by omega) (by omega) (by omega) (by omega) d0 d1)).mono ?_
          rintro e x5 ⟨rfl, h1, k1⟩
          rw [tick_rest _ d0] at h1
          have C4 := C3.out.kept k1 hCS
          have B4 := below_kept B3 B3.size k1 hws
          clear k1 C3 S3 B3
          go_wp2_with fail
          go_roundw
          case rel => exact ⟨n + 1, by omega, by go_num, B4, C4, h1⟩
          case measure => simp [intOf]; omega
      · go_wp2_with fail
        refine (at_walk _ _ _ _ HS.out).mono ?_
        rintro e x2 ⟨rfl, rfl⟩
        go_wp2_with fail
        refine (left_walk _ _ _ _ HS.out).mono ?_
        rintro e x2 ⟨rfl, rfl⟩
        go_wp2_with fail
        go_ret
        exact ⟨rfl, hbr⟩
end Go.Proofs.Ytmollbnhndjjeaa
