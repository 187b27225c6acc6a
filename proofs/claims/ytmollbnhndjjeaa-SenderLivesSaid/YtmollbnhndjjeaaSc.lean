/- The walks of New, of the statements' config, and of layer 16's example. -/
import Derived.Test.YtmollbnhndjjeaaSb
import Derived.Deep.DeepCutAuto
import Derived.StillTailTactics
namespace Go.Proofs.Ytmollbnhndjjeaa
open Go.RowKit

/-- A new sender, beyond all that was there. -/
def NewAt (c : Cf) (s : St) (w : World) (e : Ending) (w' : World) : Prop :=
  ∃ S, e = .returned (.tuple #[.pointer (some ⟨S, 0, none⟩), .int .i64 0]) ∧ SndAt w' S c s ∧ Below w.heap.size w w' ∧ w.heap.size ≤ S

set_option maxHeartbeats 1000000 in
theorem new_ok (c : Cf) (p : Int) (w : World) (hc : c.Fair) (h0 : 0 ≤ p) (h1 : p ≤ 1099511627776) :
    Calls Try.prog 25 #[.agg #[.int .i64 c.mf, .int .i64 c.base, .int .i64 c.cap, .int .i64 c.tmo, .float .f64 c.f], .int .i64 p] w (NewAt c ⟨p, p, 0, 0, 0⟩ w) := by
  have F := Lib.hid (show Fine c.base c.cap 0 from ⟨hc.b0, hc.c0, Int.le_refl _, hc.b1, hc.c1⟩)
  have t0 := hc.t0
  have t1 := hc.t1
  clear hc
  go_enter Try.func25, Try.ntmps25
  go_wp2_with fail; refine (next_ok _ _ _ _ _ _ _ F.out).mono ?_; rintro e w1 ⟨rfl, hb⟩
  have C1 := (CfgAt.new w c.mf c.base c.cap c.tmo c.f).below hb
  have S1 := below_one hb
  clear hb
  obtain ⟨-, c0, c1, c2, c3, c4⟩ := id C1
  have C1 := Lib.hid C1
  go_wp2
  go_ret2
  exact ⟨_, rfl, heap_alloc_new _ _, S1.1.alloc S1.1.size _, S1.1.size⟩

set_option maxHeartbeats 1000000 in
theorem new_bad (c : Cf) (p : Int) (w : World) (h : ¬ (c.Fair ∧ 0 ≤ p ∧ p ≤ 1099511627776)) :
    Calls Try.prog 25 #[.agg #[.int .i64 c.mf, .int .i64 c.base, .int .i64 c.cap, .int .i64 c.tmo, .float .f64 c.f], .int .i64 p] w fun e w' => e = .returned (.tuple #[.pointer none, .int .i64 3]) ∧ Below w.heap.size w w' := by
  by_cases hF : Fine c.base c.cap 0
  · have F := Lib.hid hF
    have hh : c.tmo < 1 ∨ 1099511627776 < c.tmo ∨ p < 0 ∨ 1099511627776 < p := by
      by_cases h1 : 1 ≤ c.tmo ∧ c.tmo ≤ 1099511627776 ∧ 0 ≤ p ∧ p ≤ 1099511627776
      · exact absurd ⟨⟨hF.b0, hF.c0, hF.b1, hF.c1, h1.1, h1.2.1⟩, h1.2.2⟩ h
      · omega
    have HH := Lib.hid hh
    clear h hF hh
    go_enter Try.func25, Try.ntmps25
    go_wp2_with fail; refine (next_ok _ _ _ _ _ _ _ F.out).mono ?_; rintro e w1 ⟨rfl, hb⟩
    have C1 := (CfgAt.new w c.mf c.base c.cap c.tmo c.f).below hb
    have S1 := below_one hb
    clear hb
    obtain ⟨-, c0, c1, c2, c3, c4⟩ := id C1
    have C1 := Lib.hid C1
    rcases HH.out with h1 | h1 | h1 | h1
    · go_wp2
      all_goals (go_ret2; exact ⟨rfl, S1.1⟩)
    · go_wp2
      all_goals (go_ret2; exact ⟨rfl, S1.1⟩)
    · go_wp2
      all_goals (go_ret2; exact ⟨rfl, S1.1⟩)
    · go_wp2
      all_goals (go_ret2; exact ⟨rfl, S1.1⟩)
  · have F := Lib.hid hF
    clear h hF
    go_enter Try.func25, Try.ntmps25
    go_wp2_with fail; refine (next_bad _ _ _ _ _ _ _ F.out).mono ?_; rintro e w1 ⟨rfl, hb⟩
    have S1 := below_one hb
    clear hb
    go_wp2
    go_ret2
    exact ⟨rfl, S1.1⟩

/-- A number of a config, of any number. -/
def kk (n : Int) : Int := (n % 18446744073709551616) % 1048576
theorem kk_range (n : Int) : 0 ≤ kk n ∧ kk n ≤ 1048575 := by unfold kk; omega
theorem kk_walk (n : Int) : wrap64 ((IntKind.u64.wrap n).tmod 1048576) = kk n := by
  have e : IntKind.u64.wrap n = n % 18446744073709551616 := rfl
  have h1 : 0 ≤ n % 18446744073709551616 := by omega
  rw [e, Int.tmod_eq_emod_of_nonneg h1]
  unfold wrap64 kk
  omega
set_option maxHeartbeats 400000 in
theorem kk_any (n : Int) (w : World) :
    Calls Try.prog 60 #[.int .i64 n] w fun e w' => e = .returned (.int .i64 (kk n)) ∧ w = w' := by
  go_enter Try.func60, Try.ntmps60
  go_wp2
  go_ret
  exact ⟨congrArg (fun x => Ending.returned (.int .i64 x)) (kk_walk n), rfl⟩

theorem kk_same (n : Int) (w : World) : Calls Try.prog 60 #[.int .i64 n] w fun e w' => e = .returned (.int .i64 (kk n)) ∧ w' = w := (kk_any n w).mono fun _ _ h => ⟨h.1, h.2.symm⟩
set_option maxRecDepth 100000 in
set_option maxHeartbeats 1000000 in
theorem config_any (a b t bits : Int) (w : World) :
    Calls Try.prog 24 #[.agg #[.int .i64 a, .int .i64 b, .int .i64 t], .int .u64 bits] w fun e w' => e = .returned (.agg #[.int .i64 0, .int .i64 (kk a), .int .i64 (kk b), .int .i64 (1 + kk t), .float .f64 bits.toNat]) ∧ Below w.heap.size w w' := by
  have fb := frombits
  obtain ⟨t0, t1⟩ := kk_range t
  have hw : IntKind.i64.wrap (1 + kk t) = 1 + kk t := IntWalk.i64_in _ (by omega)
  go_enter Try.func24, Try.ntmps24
  go_wp2_with fail
  refine wp_region_still_tail 16 (by kernel_rfl) (by kernel_rfl) ?_
  simp only [List.take_succ_cons, List.take_zero, List.drop_succ_cons, List.drop_zero]
  change wpStill _ _ (World.drew _) _ _ _
  repeat still_step
  still_call (kk_same _ _)
  repeat still_step
  still_call (kk_same _ _)
  repeat still_step
  still_call (kk_same _ _)
  repeat still_step
  refine wpStill_nil ?_
  change wpList _ _ _ _ _ (World.drew _)
  clear hw
  go_wp2
  exact bodyPost_ret (v := .agg #[.int .i64 0, .int .i64 (kk a), .int .i64 (kk b), .int .i64 (1 + kk t), .float .f64 bits.toNat]) (by simp [results, Try.results24, go_sem]) rfl ⟨rfl, (((Below.refl _ _).alloc (Nat.le_refl _) _).alloc (by simp) _).drew⟩
end Go.Proofs.Ytmollbnhndjjeaa
