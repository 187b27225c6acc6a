/- DelayNexts: the walk. -/
import Derived.Test.YtmollbnhndjjeaaDk
import Derived.Test.YtmollbnhndjjeaaDr
import Derived.Deep.RegionWith
import Derived.Deep.RegionHeld3
namespace Go.Proofs.Ytmollbnhndjjeaa
open Go.RowKit Fl

set_option maxRecDepth 100000 in
set_option maxHeartbeats 8000000 in
theorem nexts_walk (a b bits k : Int) (w : World) (_ : -9223372036854775808 ≤ a) (_ : a ≤ 9223372036854775807) (_ : -9223372036854775808 ≤ b) (_ : b ≤ 9223372036854775807) (hb0 : 0 ≤ bits) (hb1 : bits ≤ 18446744073709551615) (_ : -9223372036854775808 ≤ k) (_ : k ≤ 9223372036854775807) :
    Calls Try.prog 8 #[.agg #[.int .i64 a, .int .i64 b], .int .u64 bits, .int .i64 k] w fun e w' => e = .returned (.bool true) ∧ Below w.heap.size w w' := by
  have fb := frombits
  have hf : bits.toNat < 18446744073709551616 := by omega
  have HF := Lib.hid hf
  clear hf
  go_enter Try.func8, Try.ntmps8
  go_wp2
  go_region
  go_wp2_with fail
  have B0 : Below w.heap.size w ((w.alloc (.cells #[.int .i64 a, .int .i64 b] 31)).alloc (.cells #[.int .i64 0, .int .i64 a, .int .i64 b, .int .i64 0, .float .f64 bits.toNat] 28)).drew := (((Below.refl _ _).alloc (Nat.le_refl _) _).alloc (by simp) _).drew
  have C0 : CfgAt ((w.alloc (.cells #[.int .i64 a, .int .i64 b] 31)).alloc (.cells #[.int .i64 0, .int .i64 a, .int .i64 b, .int .i64 0, .float .f64 bits.toNat] 28)).drew (w.heap.size + 1) 0 a b 0 bits.toNat := by
    have hsz : (w.alloc (.cells #[.int .i64 a, .int .i64 b] 31)).heap.size = w.heap.size + 1 := by simp
    rw [← hsz]; exact (CfgAt.new _ _ _ _ _ _).drew
  revert B0 C0
  generalize ((w.alloc (.cells #[.int .i64 a, .int .i64 b] 31)).alloc (.cells #[.int .i64 0, .int .i64 a, .int .i64 b, .int .i64 0, .float .f64 bits.toNat] 28)).drew = w0
  intro B0 C0
  have C0 := Lib.hid C0
  by_cases hF : Fine a b k
  · have F := Lib.hid hF
    have hk0 := hF.k0
    obtain ⟨K, hK0, hK1, hKe⟩ : ∃ K : Int, 0 ≤ K ∧ K ≤ 60 ∧ (if 60 < k then 60 else k) = K := ⟨_, by split <;> omega, by split <;> omega, rfl⟩
    have FK := Lib.hid (show Fine a b K from ⟨hF.b0, hF.c0, hK0, hF.b1, hF.c1⟩)
    clear hF
    refine (next_ok _ _ _ _ _ _ _ F.out).mono ?_
    rintro e w1 ⟨rfl, hb⟩
    have C1 := Lib.hid (C0.out.below hb)
    have B1 := below_call B0 B0.size hb
    clear hb C0 B0
    obtain ⟨-, c0, c1, c2, c3, c4⟩ := C1.out
    go_wp2_with fail
    refine (rnext_ok _ _ _ _ _ _ _ F.out).mono ?_
    rintro e w2 ⟨rfl, hb⟩
    have C2 := Lib.hid (C1.out.below hb)
    have B2 := below_call B1 B1.size hb
    clear hb C1 B1 c0 c1 c2 c3 c4
    obtain ⟨-, c0, c1, c2, c3, c4⟩ := C2.out
    go_wp2_with fail
    refine (total_ok _ _ _ _ _ _ _ FK.out (by omega)).mono ?_
    rintro e w3 ⟨rfl, hb⟩
    have C3 := Lib.hid (C2.out.below hb)
    have B3 := below_call B2 B2.size hb
    clear hb C2 B2 c0 c1 c2 c3 c4
    obtain ⟨-, c0, c1, c2, c3, c4⟩ := C3.out
    go_wp2_with fail
    refine (rtotal_ok _ _ _ _ _ _ _ FK.out (by omega)).mono ?_
    rintro e w4 ⟨rfl, hb⟩
    have C4 := Lib.hid (C3.out.below hb)
    have B4 := below_call B3 B3.size hb
    clear hb C3 B3 c0 c1 c2 c3 c4
    obtain ⟨-, c0, c1, c2, c3, c4⟩ := C4.out
    go_wp2_with fail
    refine (total_bad _ _ _ _ _ _ _ (.inr (by omega))).mono ?_
    rintro e w5 ⟨rfl, hb⟩
    have C5 := Lib.hid (C4.out.below hb)
    have B5 := below_call B4 B4.size hb
    clear hb C4 B4 c0 c1 c2 c3 c4 hKe
    go_wp2_with fail
    obtain ⟨-, -, -, -, -, c4⟩ := C5.out
    go_region_held3 (fun w' => w'.cell? ⟨w.heap.size + 1, 4, none⟩ = some (.float .f64 bits.toNat)) (go_keep) (first | (go_at_call 21; refine (alive12 _).mono ?_; rintro e w6 ⟨rfl, hb⟩; obtain ⟨-, -, -, -, -, d4⟩ := (CfgAt.drew C5.out).below hb) | (go_at_call 37; refine (kind_walk _ _ HF.out).mono ?_; rintro e w7 ⟨rfl, rfl⟩) | (go_at_call 38; refine (rkind_walk _ _ HF.out).mono ?_; rintro e w7 ⟨rfl, rfl⟩))
    go_wp2_with fail
    go_ret
    exact ⟨rfl, below_call B5 B5.size (((Below.refl _ _).drew).trans hb)⟩
  · have F := Lib.hid hF
    obtain ⟨K, hK1, hK2, hKe⟩ : ∃ K : Int, K ≤ 60 ∧ (0 ≤ K → 0 ≤ k) ∧ (if 60 < k then 60 else k) = K := ⟨_, by split <;> omega, by split <;> omega, rfl⟩
    have FK := Lib.hid (show ¬ Fine a b K from fun h => F.out ⟨h.b0, h.c0, hK2 h.k0, h.b1, h.c1⟩)
    have hlo : -9223372036854775808 ≤ K := by rw [← hKe]; split <;> omega
    clear hF
    refine (next_bad _ _ _ _ _ _ _ F.out).mono ?_
    rintro e w1 ⟨rfl, hb⟩
    have C1 := Lib.hid (C0.out.below hb)
    have B1 := below_call B0 B0.size hb
    clear hb C0 B0
    obtain ⟨-, c0, c1, c2, c3, c4⟩ := C1.out
    go_wp2_with fail
    refine (rnext_bad _ _ _ _ _ _ _ F.out).mono ?_
    rintro e w2 ⟨rfl, hb⟩
    have C2 := Lib.hid (C1.out.below hb)
    have B2 := below_call B1 B1.size hb
    clear hb C1 B1 c0 c1 c2 c3 c4
    obtain ⟨-, c0, c1, c2, c3, c4⟩ := C2.out
    go_wp2_with fail
    refine (total_bad _ _ _ _ _ _ _ (.inl FK.out)).mono ?_
    rintro e w3 ⟨rfl, hb⟩
    have C3 := Lib.hid (C2.out.below hb)
    have B3 := below_call B2 B2.size hb
    clear hb C2 B2 c0 c1 c2 c3 c4
    obtain ⟨-, c0, c1, c2, c3, c4⟩ := C3.out
    go_wp2_with fail
    refine (rtotal_bad _ _ _ _ _ _ _ FK.out).mono ?_
    rintro e w4 ⟨rfl, hb⟩
    have C4 := Lib.hid (C3.out.below hb)
    have B4 := below_call B3 B3.size hb
    clear hb C3 B3 c0 c1 c2 c3 c4
    obtain ⟨-, c0, c1, c2, c3, c4⟩ := C4.out
    go_wp2_with fail
    refine (total_bad _ _ _ _ _ _ _ (.inr (by omega))).mono ?_
    rintro e w5 ⟨rfl, hb⟩
    have C5 := Lib.hid (C4.out.below hb)
    have B5 := below_call B4 B4.size hb
    clear hb C4 B4 c0 c1 c2 c3 c4 hKe
    go_wp2_with fail
    obtain ⟨-, -, -, -, -, c4⟩ := C5.out
    go_region_held3 (fun w' => w'.cell? ⟨w.heap.size + 1, 4, none⟩ = some (.float .f64 bits.toNat)) (go_keep) (first | (go_at_call 21; refine (alive12 _).mono ?_; rintro e w6 ⟨rfl, hb⟩; obtain ⟨-, -, -, -, -, d4⟩ := (CfgAt.drew C5.out).below hb) | (go_at_call 37; refine (kind_walk _ _ HF.out).mono ?_; rintro e w7 ⟨rfl, rfl⟩) | (go_at_call 38; refine (rkind_walk _ _ HF.out).mono ?_; rintro e w7 ⟨rfl, rfl⟩))
    go_wp2_with fail
    go_ret
    exact ⟨rfl, below_call B5 B5.size (((Below.refl _ _).drew).trans hb)⟩
end Go.Proofs.Ytmollbnhndjjeaa
