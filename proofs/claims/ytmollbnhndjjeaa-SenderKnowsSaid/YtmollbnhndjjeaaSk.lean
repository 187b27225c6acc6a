/- SenderKnows: the walk. -/
import Derived.Test.YtmollbnhndjjeaaSe
namespace Go.Proofs.Ytmollbnhndjjeaa
open Go.RowKit

def kz (n : Int) : Int := (n % 18446744073709551616) % 1073741824
theorem kz_range (n : Int) : 0 ≤ kz n ∧ kz n ≤ 1073741823 := by unfold kz; omega
theorem kz_walk (n : Int) : wrap64 ((IntKind.u64.wrap n).tmod 1073741824) = kz n := by
  have e : IntKind.u64.wrap n = n % 18446744073709551616 := rfl
  have h1 : 0 ≤ n % 18446744073709551616 := by omega
  rw [e, Int.tmod_eq_emod_of_nonneg h1]
  unfold wrap64 kz
  omega
def ck : Cf := ⟨0, 0, 0, 1, 0⟩
theorem ck_fair : ck.Fair := ⟨by decide, by decide, by decide, by decide, by decide, by decide⟩

set_option maxRecDepth 100000 in
set_option maxHeartbeats 4000000 in
theorem knows_walk (a m : Int) (w : World) (_ : -9223372036854775808 ≤ a) (_ : a ≤ 9223372036854775807) (hm0 : 0 ≤ m) (hm1 : m ≤ 255) :
    Calls Try.prog 14 #[.int .i64 a, .int .u8 m] w fun e w' => e = .returned (.bool true) ∧ Below w.heap.size w w' := by
  go_enter Try.func14, Try.ntmps14
  go_wp2_with fail
  rw [kz_walk]
  obtain ⟨z0, z1⟩ := kz_range a
  revert z0 z1
  generalize kz a = z
  intro z0 z1
  refine (new_ok ck z _ ck_fair (by omega) (by omega)).mono ?_
  rintro e w3 ⟨S, rfl, h0, B3, hws⟩
  have H0 := Lib.hid h0
  clear h0
  go_wp2_with fail
  refine (alive16 _).mono ?_
  rintro e w4 ⟨rfl, hb⟩
  have H4 := Lib.hid (H0.out.below hb)
  have B4 := below_call B3 B3.size hb
  clear hb H0 B3
  go_wp2_with fail
  refine (poll_walk _ _ _ _ H4.out (idle_ok (by omega) (by omega) (by omega) (by omega) (by omega))).mono ?_
  rintro e x1 ⟨rfl, h1, k1⟩
  rw [poll_end _ (by omega)] at h1
  rw [pollN_end (by omega), polls_end (by omega)]
  have S1 := Lib.hid h1
  have B1 := below_kept B4 B4.size k1 hws
  clear h1 k1 H4 B4
  go_wp2_with fail
  refine (offer_walk _ _ _ _ _ S1.out).mono ?_
  rintro e x2 ⟨rfl, h1, k1⟩
  rw [offer_low (by show z - 1 < z; omega)] at h1
  rw [offerE_low (by show z - 1 < z; omega)]
  have S2 := Lib.hid h1
  have B2 := below_kept B1 B1.size k1 hws
  clear h1 k1 S1 B1
  go_wp2_with fail
  refine (offer_walk _ _ _ _ _ S2.out).mono ?_
  rintro e x3 ⟨rfl, h1, k1⟩
  rw [offer_first (by omega) (by omega)] at h1
  rw [offerE_ok (by show z ≤ z + m % 40; omega) (by omega)]
  have B5 := below_kept B2 B2.size k1 hws
  clear k1 S2 B2
  go_wp2_with fail
  go_loopw [59] (fun i wr => ∃ n : Nat, (n : Int) ≤ m % 40 ∧ i = .int .i64 n ∧ Below w.heap.size w wr ∧ SndAt wr S ck ⟨z + n, z + m % 40, 0, 0, 0⟩) (fun i _ => 41 - (intOf i).toNat)
  case atStart => exact ⟨0, by omega, rfl, B5, by rw [show z + ((0 : Nat) : Int) = z from by omega]; exact h1⟩
  case round =>
    obtain ⟨n, hn, rfl, hbr, hsr⟩ := hrel
    clear h1 B5
    have HS := Lib.hid hsr
    clear hsr
    by_cases hnK : (n : Int) < m % 40
    · go_wp2_with fail
      refine (poll_walk _ _ _ _ HS.out (idle_ok (by omega) (by omega) (by omega) (by omega) (by omega))).mono ?_
      rintro e x1 ⟨rfl, h1, k1⟩
      rw [poll_idle _ (by omega)] at h1
      rw [pollN_idle (by omega), polls_idle (by omega)]
      have S1 : Hid (SndAt x1 S ck ⟨z + n, z + m % 40, 1, 1, 0⟩) := Lib.hid h1
      have B1 := below_kept hbr hbr.size k1 hws
      clear h1 k1 HS hbr
      go_wp2_with fail
      refine (answer_walk _ _ _ _ _ S1.out ck_fair (fly_ok (by omega) (by omega) (by omega) (by omega) (by omega) (by omega) (by omega))).mono ?_
      rintro e x3 ⟨rfl, h1, k1⟩
      rw [answer_right] at h1
      rw [show ((St.mk (z + n) (z + m % 40) 1 1 0).fly && true) = true from rfl]
      have S3 := Lib.hid h1
      have B3 := below_kept B1 B1.size k1 hws
      clear h1 k1 S1 B1
      go_wp2_with fail
      go_roundw
      case rel => exact ⟨n + 1, by omega, by go_num, B3, by rw [show z + ((n + 1 : Nat) : Int) = z + n + 1 from by omega]; exact S3.out⟩
      case measure => simp [intOf]; omega
    · have e : (n : Int) = m % 40 := by omega
      rw [e] at HS
      clear e
      go_wp2_with fail
      refine (poll_walk _ _ _ _ HS.out (idle_ok (by omega) (by omega) (by omega) (by omega) (by omega))).mono ?_
      rintro e x1 ⟨rfl, h1, k1⟩
      rw [poll_end _ (by omega)] at h1
      rw [pollN_end (by omega), polls_end (by omega)]
      have S1 := Lib.hid h1
      have B1 := below_kept hbr hbr.size k1 hws
      clear h1 k1 HS hbr
      go_wp2_with fail
      refine (at_walk _ _ _ _ S1.out).mono ?_
      rintro e x2 ⟨rfl, rfl⟩
      go_wp2_with fail
      refine (answer_walk _ _ _ _ _ S1.out ck_fair (idle_ok (by omega) (by omega) (by omega) (by omega) (by omega))).mono ?_
      rintro e x3 ⟨rfl, h1, k1⟩
      rw [show ((St.mk (z + m % 40) (z + m % 40) 0 0 0).fly && true) = false from rfl]
      have B3 := below_kept B1 B1.size k1 hws
      clear h1 k1 S1 B1
      go_wp2_with fail
      go_ret
      exact ⟨rfl, B3⟩
end Go.Proofs.Ytmollbnhndjjeaa
