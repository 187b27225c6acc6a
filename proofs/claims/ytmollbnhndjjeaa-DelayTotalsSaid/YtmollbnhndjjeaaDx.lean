/- DelayTotals: the walk. -/
import Derived.Test.YtmollbnhndjjeaaDw
import Derived.StillTailTactics
import Derived.Deep.RegionWith
import Derived.Deep.DeepCutAuto
namespace Go.Proofs.Ytmollbnhndjjeaa
open Go.RowKit Fl

set_option maxRecDepth 100000 in
set_option maxHeartbeats 8000000 in
theorem totals_walk (a b bits k : Int) (w : World) (_ : -9223372036854775808 ≤ a) (_ : a ≤ 9223372036854775807) (_ : -9223372036854775808 ≤ b) (_ : b ≤ 9223372036854775807) (_ : 0 ≤ bits) (_ : bits ≤ 18446744073709551615) (hk0 : 0 ≤ k) (hk1 : k ≤ 255) :
    Calls Try.prog 6 #[.agg #[.int .i64 a, .int .i64 b], .int .u64 bits, .int .u8 k] w fun e w' => e = .returned (.bool true) ∧ Below w.heap.size w w' := by
  obtain ⟨b0, b1⟩ := tk_range a
  obtain ⟨l0, l1⟩ := tk_range b
  have fb := frombits
  go_enter Try.func6, Try.ntmps6
  go_wp2_with fail
  go_cut [7] (fun c wx => c = .pointer (some ⟨w.heap.size + 1, 0, none⟩) ∧ wx = ((w.alloc (.cells #[.int .i64 a, .int .i64 b] 31)).alloc (.cells #[.int .i64 0, .int .i64 (tk a), .int .i64 (tk b), .int .i64 0, .float .f64 bits.toNat] 28)).drew)
  case first =>
    go_region_with (go_at_call 19; refine (ticks_any _ _).mono ?_; rintro e w' ⟨rfl, rfl⟩)
    all_goals (go_wp2_with fail; go_meet; first | exact ⟨rfl, rfl⟩ | (case rel => exact ⟨rfl, rfl⟩))
  case rest =>
    obtain ⟨rfl, rfl⟩ := hcut
    have hsz : (w.alloc (.cells #[.int .i64 a, .int .i64 b] 31)).heap.size = w.heap.size + 1 := by simp
    have C0 : CfgAt ((w.alloc (.cells #[.int .i64 a, .int .i64 b] 31)).alloc (.cells #[.int .i64 0, .int .i64 (tk a), .int .i64 (tk b), .int .i64 0, .float .f64 bits.toNat] 28)).drew (w.heap.size + 1) 0 (tk a) (tk b) 0 bits.toNat := by
      rw [← hsz]; exact (CfgAt.new _ _ _ _ _ _).drew
    have S0 : Below w.heap.size w ((w.alloc (.cells #[.int .i64 a, .int .i64 b] 31)).alloc (.cells #[.int .i64 0, .int .i64 (tk a), .int .i64 (tk b), .int .i64 0, .float .f64 bits.toNat] 28)).drew := (((Below.refl _ _).alloc (Nat.le_refl _) _).alloc (by simp) _).drew
    clear hsz
    revert C0 S0
    generalize ((w.alloc (.cells #[.int .i64 a, .int .i64 b] 31)).alloc (.cells #[.int .i64 0, .int .i64 (tk a), .int .i64 (tk b), .int .i64 0, .float .f64 bits.toNat] 28)).drew = w0
    intro C0 S0
    have C := Lib.hid C0
    obtain ⟨-, c0, c1, c2, c3, c4⟩ := C0
    obtain ⟨n, rfl⟩ : ∃ n : Nat, k = n := ⟨k.toNat, by omega⟩
    obtain ⟨t0, t1⟩ := tot_range (base := tk a) (fw := bits.toNat) l0 l1 n
    obtain ⟨x0, x1⟩ := nx_range (base := tk a) (fw := bits.toNat) (k := n) l0 l1
    have m0 : 0 ≤ (n : Int) * tk b := Int.mul_nonneg (by omega) l0
    have m1 : (n : Int) * tk b ≤ 255 * 1099511627776 := Int.mul_le_mul (by omega) l1 l0 (by omega)
    have tA : tot (tk a) (tk b) bits.toNat ((n : Int)).toNat = tot (tk a) (tk b) bits.toNat n := by rw [Int.toNat_natCast]
    have tB : tot (tk a) (tk b) bits.toNat ((n : Int) + 1).toNat = tot (tk a) (tk b) bits.toNat n + nx (tk a) (tk b) bits.toNat n := by
      have : ((n : Int) + 1).toNat = n + 1 := by omega
      rw [this]; rfl
    obtain ⟨A, hA⟩ : ∃ A, tot (tk a) (tk b) bits.toNat n = A := ⟨_, rfl⟩
    obtain ⟨D, hD⟩ : ∃ D, nx (tk a) (tk b) bits.toNat n = D := ⟨_, rfl⟩
    rw [hA, hD] at tB
    rw [hA] at tA t0 t1
    rw [hD] at x0 x1
    have TA := Lib.hid tA
    have TB := Lib.hid tB
    have HD := Lib.hid hD
    clear tA tB hA hD
    go_wp2_with fail
    refine (total_ok _ _ _ _ _ _ _ ⟨b0, l0, by omega, b1, l1⟩ (by omega)).mono ?_
    rintro e w1 ⟨rfl, hb⟩
    rw [TA.out]
    clear c0 c1 c2 c3 c4
    have C1 := Lib.hid (C.out.below hb)
    have S1 := below_call S0 S0.size hb
    clear hb C S0
    obtain ⟨-, c0, c1, c2, c3, c4⟩ := C1.out
    go_wp2_with fail
    refine (total_ok _ _ _ _ _ _ _ ⟨b0, l0, by omega, b1, l1⟩ (by omega)).mono ?_
    rintro e w2 ⟨rfl, hb⟩
    rw [TB.out]
    clear c0 c1 c2 c3 c4
    have C2 := Lib.hid (C1.out.below hb)
    have S2 := below_call S1 S1.size hb
    clear hb C1 S1
    obtain ⟨-, c0, c1, c2, c3, c4⟩ := C2.out
    go_wp2_with fail
    refine (next_ok _ _ _ _ _ _ _ ⟨b0, l0, by omega, b1, l1⟩).mono ?_
    rintro e w3 ⟨rfl, hb⟩
    rw [HD.out]
    clear c0 c1 c2 c3 c4
    have C3 := Lib.hid (C2.out.below hb)
    have S3 := below_call S2 S2.size hb
    clear hb C2 S2
    go_wp2_with fail
    refine (alive12 _).mono ?_
    rintro e w4 ⟨rfl, hb⟩
    obtain ⟨-, c0, c1, c2, c3, c4⟩ := C3.out.below hb
    have S4 := below_call S3 S3.size hb
    clear hb C3 S3
    go_wp2_with fail
    go_ret
    exact ⟨rfl, S4⟩
end Go.Proofs.Ytmollbnhndjjeaa
