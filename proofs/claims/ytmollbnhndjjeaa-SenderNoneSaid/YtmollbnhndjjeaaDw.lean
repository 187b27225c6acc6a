/- The walk of delay.Total; DelayTotals. -/
import Derived.Test.YtmollbnhndjjeaaDu
namespace Go.Proofs.Ytmollbnhndjjeaa
open Go.RowKit Fl

/-- The sum of the delays ahead of so many tries. -/
def tot (base cap : Int) (fw : Nat) : Nat → Int
  | 0 => 0
  | n + 1 => tot base cap fw n + nx base cap fw n
theorem tot_range {base cap : Int} {fw : Nat} (h0 : 0 ≤ cap) (h1 : cap ≤ 1099511627776) : ∀ n : Nat, 0 ≤ tot base cap fw n ∧ tot base cap fw n ≤ n * cap
  | 0 => by unfold tot; omega
  | n + 1 => by
    obtain ⟨a, b⟩ := tot_range (base := base) (fw := fw) h0 h1 n
    obtain ⟨c, d⟩ := nx_range (base := base) (fw := fw) (k := n) h0 h1
    have e : ((n + 1 : Nat) : Int) * cap = n * cap + cap := by
      have : ((n + 1 : Nat) : Int) = n + 1 := by omega
      rw [this, Int.add_mul, Int.one_mul]
    rw [e]
    unfold tot
    omega
theorem tot_small {base cap : Int} {fw : Nat} (h0 : 0 ≤ cap) (h1 : cap ≤ 1099511627776) {n : Nat} (hn : n ≤ 1000) : 0 ≤ tot base cap fw n ∧ tot base cap fw n ≤ 1099511627776000 := by
  obtain ⟨a, b⟩ := tot_range (base := base) (fw := fw) h0 h1 n
  have h2 : (n : Int) * cap ≤ 1000 * 1099511627776 := Int.mul_le_mul (by omega) h1 h0 (by omega)
  omega

set_option maxRecDepth 100000 in
set_option maxHeartbeats 1000000 in
theorem total_ok (mf base cap tmo k : Int) (fw : Nat) (w : World) (h : Fine base cap k) (hk : k ≤ 1000) :
    Calls Try.prog 23 #[.agg #[.int .i64 mf, .int .i64 base, .int .i64 cap, .int .i64 tmo, .float .f64 fw], .int .i64 k] w fun e w' => e = .returned (.tuple #[.int .i64 (tot base cap fw k.toNat), .int .i64 0]) ∧ Below w.heap.size w w' := by
  have h' := h
  obtain ⟨h1, h2, h3, h4, h5⟩ := h
  have H := Lib.hid h'; clear h'
  go_enter Try.func23, Try.ntmps23
  go_wp2_with (go_at_call 58; refine (check_ok _ _ _ _ _ _ _ H.out).mono ?_; rintro e w1 ⟨rfl, hb⟩)
  have C1 := (CfgAt.new w mf base cap tmo fw).below hb
  have S1 := below_one hb
  clear hb
  go_loopw [7, 21] (fun s i wr => ∃ n : Nat, n ≤ k.toNat ∧ i = .int .i64 n ∧ s = .int .i64 (tot base cap fw n) ∧ Below w.heap.size w wr ∧ CfgAt wr w.heap.size mf base cap tmo fw) (fun _ i _ => 1001 - (intOf i).toNat)
  case atStart => exact ⟨0, by omega, rfl, rfl, S1.1, C1⟩
  case round =>
    obtain ⟨n, hn, rfl, rfl, hbr, hcfg⟩ := hrel
    clear C1 S1
    have C := Lib.hid hcfg
    obtain ⟨clt, c0, c1, c2, c3, c4⟩ := hcfg
    by_cases hnk : (n : Int) < k
    · obtain ⟨s0, s1⟩ := tot_small (base := base) (fw := fw) h2 h5 (show n ≤ 1000 by omega)
      obtain ⟨x0, x1⟩ := nx_range (base := base) (fw := fw) (k := n) h2 h5
      go_wp2_with (go_at_call 20; refine (next_ok _ _ _ _ _ _ _ ⟨h1, h2, by omega, h4, h5⟩).mono ?_; rintro e w3 ⟨rfl, hb3⟩)
      go_roundw
      case rel => exact ⟨n + 1, by omega, by go_num, rfl, below_call hbr hbr.size hb3, C.out.below hb3⟩
      case measure => simp [intOf]; omega
    · have e : n = k.toNat := by omega
      have E := Lib.hid e; clear e
      go_wp2
      go_ret2
      exact ⟨by rw [← E.out]; rfl, hbr⟩

set_option maxRecDepth 100000 in
set_option maxHeartbeats 1000000 in
theorem total_bad (mf base cap tmo k : Int) (fw : Nat) (w : World) (h : ¬ Fine base cap k ∨ 1000 < k) :
    Calls Try.prog 23 #[.agg #[.int .i64 mf, .int .i64 base, .int .i64 cap, .int .i64 tmo, .float .f64 fw], .int .i64 k] w fun e w' => e = .returned (.tuple #[.int .i64 0, .int .i64 3]) ∧ Below w.heap.size w w' := by
  by_cases hF : Fine base cap k
  · have hk : 1000 < k := by
      rcases h with h | h
      · exact absurd hF h
      · exact h
    clear h
    have H := Lib.hid hF; clear hF
    go_enter Try.func23, Try.ntmps23
    go_wp2_with (go_at_call 58; refine (check_ok _ _ _ _ _ _ _ H.out).mono ?_; rintro e w1 ⟨rfl, hb⟩)
    go_ret2
    exact ⟨rfl, (below_one hb).1⟩
  · clear h
    have H := Lib.hid hF; clear hF
    go_enter Try.func23, Try.ntmps23
    go_wp2_with (go_at_call 58; refine (check_bad _ _ _ _ _ _ _ H.out).mono ?_; rintro e w1 ⟨rfl, hb⟩)
    go_ret2
    exact ⟨rfl, (below_one hb).1⟩

end Go.Proofs.Ytmollbnhndjjeaa
