/- The walks of layer 12's small functions. -/
import Derived.Test.YtmollbnhndjjeaaRows
import Derived.WalkKit
import Derived.WalkSpells
import Derived.WalkLawsBesides
import Derived.Deep.QuietTactic
import Derived.BigQuiet
import Derived.Lib.Hide
import Derived.Test.YtmollbnhndjjeaaDp
namespace Go.Proofs.Ytmollbnhndjjeaa
open Go.RowKit

/-- A config and a try that may be. -/
structure Fine (base cap k : Int) : Prop where
  b0 : 0 ≤ base
  c0 : 0 ≤ cap
  k0 : 0 ≤ k
  b1 : base ≤ 1099511627776
  c1 : cap ≤ 1099511627776

set_option maxHeartbeats 400000 in
theorem check_ok (mf base cap tmo k : Int) (fw : Nat) (w : World) (h : Fine base cap k) :
    Calls Try.prog 58 #[.agg #[.int .i64 mf, .int .i64 base, .int .i64 cap, .int .i64 tmo, .float .f64 fw], .int .i64 k] w fun e w' => e = .returned (.int .i64 0) ∧ Below w.heap.size w w' := by
  obtain ⟨h1, h2, h3, h4, h5⟩ := h
  go_enter Try.func58, Try.ntmps58
  go_wp2
  all_goals (go_ret; exact ⟨rfl, (Below.refl _ _).alloc (Nat.le_refl _) _⟩)

set_option maxHeartbeats 400000 in
theorem check_bad (mf base cap tmo k : Int) (fw : Nat) (w : World) (h : ¬ Fine base cap k) :
    Calls Try.prog 58 #[.agg #[.int .i64 mf, .int .i64 base, .int .i64 cap, .int .i64 tmo, .float .f64 fw], .int .i64 k] w fun e w' => e = .returned (.int .i64 3) ∧ Below w.heap.size w w' := by
  have H := Lib.hid h; clear h
  go_enter Try.func58, Try.ntmps58
  go_wp2
  all_goals first
    | (go_ret; exact ⟨rfl, (Below.refl _ _).alloc (Nat.le_refl _) _⟩)
    | (exfalso; exact H.out ⟨by omega, by omega, by omega, by omega, by omega⟩)


/-- The number of ticks that 'ticks' tells. -/
def tk (n : Int) : Int := (n % 18446744073709551616) % 1099511627777
theorem tk_range (n : Int) : 0 ≤ tk n ∧ tk n ≤ 1099511627776 := by unfold tk; omega
theorem tk_walk (n : Int) : wrap64 ((IntKind.u64.wrap n).tmod 1099511627777) = tk n := by
  have e : IntKind.u64.wrap n = n % 18446744073709551616 := rfl
  have h1 : 0 ≤ n % 18446744073709551616 := by omega
  rw [e, Int.tmod_eq_emod_of_nonneg h1]
  unfold wrap64 tk
  omega

set_option maxHeartbeats 400000 in
theorem ticks_any (n : Int) (w : World) :
    Calls Try.prog 19 #[.int .i64 n] w fun e w' => e = .returned (.int .i64 (tk n)) ∧ w = w' := by
  go_enter Try.func19, Try.ntmps19
  go_wp2
  go_ret
  exact ⟨congrArg (fun x => Ending.returned (.int .i64 x)) (tk_walk n), rfl⟩

theorem below_one {w w1 : World} {o : Obj} (hb : Below (w.alloc o).heap.size (w.alloc o) w1) : Below w.heap.size w w1 ∧ w.heap.size < w1.heap.size := by
  have hs : (w.alloc o).heap.size = w.heap.size + 1 := by simp
  refine ⟨((Below.refl _ _).alloc (Nat.le_refl _) _).trans (hb.mono (by omega)), ?_⟩
  have := hb.size
  omega
theorem cells_one {w w1 : World} {cs : Array Value} {t : TypeId} (hb : Below (w.alloc (.cells cs t (0, 0))).heap.size (w.alloc (.cells cs t (0, 0))) w1) (i : Nat) (v : Value) (h : cs[i]? = some v) : w1.cell? ⟨w.heap.size, i, none⟩ = some v := by
  have hs : (w.alloc (.cells cs t (0, 0))).heap.size = w.heap.size + 1 := by simp
  rw [hb.cell (p := ⟨w.heap.size, i, none⟩) (by show w.heap.size < _; omega)]
  rw [World.cell?_alloc_mark, h]

/-! the float operations of the loop, as the walk runs them -/
theorem run_mul_some (t : TypeId) (D fw y : Nat) (h : mulF D fw = some y) (w : World) : (binOp .mul t (.float .f64 D) (.float .f64 fw)).run Try.prog w = .ok (.float .f64 y) w :=
  run_float_arith w .mul t .f64 D fw y h
theorem run_mul_none (t : TypeId) (D fw : Nat) (h : mulF D fw = none) (w : World) : ∃ N, Fl.inf < Fl.rg N ∧ (binOp .mul t (.float .f64 D) (.float .f64 fw)).run Try.prog w = .ok (.float .f64 N) w.drew := by
  have h' : FloatKind.f64.format.mul D fw = none := h
  refine ⟨Question.cut (.nanBits .f64 D fw) (w.tape w.drawn (.nanBits .f64 D fw)), ?_, ?_⟩
  · simp only [Question.cut]
    unfold Fl.inf Fl.rg
    generalize w.tape w.drawn (.nanBits .f64 D fw) = x
    have e1 : (2 : Nat) ^ 63 = 9223372036854775808 := by decide
    have e2 : (2 : Nat) ^ 52 - 1 = 4503599627370495 := by decide
    rw [e1, e2]
    have : x % 2 = 0 ∨ x % 2 = 1 := by omega
    rcases this with h | h <;> rw [h] <;> omega
  · simp [binOp, Op.floatArith, h', Question.forced]
theorem run_max0 (D : Nat) {most n : Nat} (hm : Is most n) (h : ltF D most = true) (w : World) : (Builtin.max_ #[26, 26] 26 #[.float .f64 D, .float .f64 0]).run Try.prog w = .ok (.float .f64 (mx0 D)) w := by
  have hne : FloatKind.f64.format.order D 0 ≠ none := by
    have e : FloatKind.f64.format.order D 0 = Ieee.double.order D 0 := rfl
    rw [e]
    rcases of_ltF hm h with ⟨h1, h2⟩ | ⟨h1, h2, h3⟩
    · by_cases hi : Fl.rg D = Fl.inf
      · rw [Fl.order_inf_fin hi (by decide)]; exact Option.some_ne_none _
      · rw [Fl.order_fin (by omega) (by decide)]; exact Option.some_ne_none _
    · rw [Fl.order_fin h2 (by decide)]; exact Option.some_ne_none _
  unfold mx0
  cases ho : FloatKind.f64.format.order D 0 with
  | none => exact absurd ho hne
  | some o => cases o <;> simp [Builtin.max_, Builtin.max2, ho]
theorem run_whole (D : Nat) {most n : Nat} (hm : Is most n) (hn : n ≤ 1099511627776) (h : ltF D most = true) (w : World) : (convert 26 3 (.float .f64 (mx0 D))).run Try.prog w = .ok (.int .i64 (whole D)) w :=
  run_convert_float_int w 26 3 .f64 .i64 (mx0 D) (whole D) (by rw [Try.underlying26]; rfl) Try.underlying3 (whole_spec hm hn h).1

theorem ret_two {a b c : Int} (h : a = b) : Ending.returned (.tuple #[.int .i64 b, .int .i64 c]) = .returned (.tuple #[.int .i64 a, .int .i64 c]) := by rw [h]

set_option maxRecDepth 100000 in
set_option maxHeartbeats 400000 in
theorem next_ok (mf base cap tmo k : Int) (fw : Nat) (w : World) (h : Fine base cap k) :
    Calls Try.prog 20 #[.agg #[.int .i64 mf, .int .i64 base, .int .i64 cap, .int .i64 tmo, .float .f64 fw], .int .i64 k] w fun e w' => e = .returned (.tuple #[.int .i64 (nx base cap fw k), .int .i64 0]) ∧ Below w.heap.size w w' := by
  have h' := h
  obtain ⟨h1, h2, h3, h4, h5⟩ := h
  have H := Lib.hid h'; clear h'
  go_enter Try.func20, Try.ntmps20
  go_wp2_with (go_at_call 58; refine (check_ok _ _ _ _ _ _ _ H.out).mono ?_; rintro e w1 ⟨rfl, hb⟩)
  have c1 := cells_one hb 1 _ rfl
  have c2 := cells_one hb 2 _ rfl
  have c4 := cells_one hb 4 _ rfl
  obtain ⟨hB, hS⟩ := below_one hb
  clear hb
  go_region
  go_wp2
  go_loopw [7, 9] (fun d i wr => ∃ (D : Nat) (n : Nat), n ≤ (min k 1000).toNat ∧ i = .int .i64 n ∧ d = .float .f64 D ∧ Below w.heap.size w wr ∧ 
     wr.cell? ⟨w.heap.size, 2, none⟩ = some (.int .i64 cap) ∧ wr.cell? ⟨w.heap.size, 4, none⟩ = some (.float .f64 fw) ∧ nx base cap fw k = fin cap (it (fl cap) fw ((min k 1000).toNat - n) D)) (fun _ i _ => 1001 - (intOf i).toNat)
  case atStart => exact ⟨_, 0, Nat.zero_le _, rfl, rfl, hB.drew, c2, c4, rfl⟩
  case round =>
    obtain ⟨D, n, hn, rfl, rfl, hbr, d2, d4, hnx⟩ := hrel
    clear c1 c2 c4 hB hS
    have hm := cap_is h2 h5
    cases hlt : ltF D (fl cap) with
    | false =>
      have e : nx base cap fw k = cap := by
        rw [hnx]
        cases (min k 1000).toNat - n <;> (unfold it; rw [hlt]; rfl)
      have e1 : (FloatKind.f64.format.order D (floatOfInt FloatKind.f64 cap) == some Ordering.lt) = false := hlt
      have E := Lib.hid e
      clear hnx hlt hm e
      go_wp2
      go_ret2
      exact ⟨ret_two E.out, hbr⟩
    | true =>
      have e1 : (FloatKind.f64.format.order D (floatOfInt FloatKind.f64 cap) == some Ordering.lt) = true := hlt
      by_cases hk : (min k 1000).toNat = n
      · have e : nx base cap fw k = whole D := by
          rw [hnx, hk, Nat.sub_self]
          unfold it; rw [hlt]; rfl
        have r1 := run_max0 D hm hlt
        have r2 := run_whole D hm (by omega) hlt
        have hw0 := (whole_spec hm (by omega) hlt).2.1
        have E := Lib.hid e
        clear hnx hlt hm e
        by_cases hk2 : 1000 < k
        · obtain rfl : n = 1000 := by omega
          clear hk
          go_wp2
          all_goals (go_ret2; first | exact ⟨ret_two E.out, hbr⟩ | exact ⟨ret_two (E.out.trans (by omega)), hbr⟩)
        · obtain rfl : k = n := by omega
          clear hk
          go_wp2
          all_goals (go_ret2; first | exact ⟨ret_two E.out, hbr⟩ | exact ⟨ret_two (E.out.trans (by omega)), hbr⟩)
      · have hk3 : (min k 1000).toNat - n = ((min k 1000).toNat - (n + 1)) + 1 := by omega
        have hk4 : (n : Int) < k := by omega
        have hk5 : (n : Int) < 1000 := by omega
        clear hn hk
        cases hmul : mulF D fw with
        | some y =>
          have e : nx base cap fw k = fin cap (it (fl cap) fw ((min k 1000).toNat - (n + 1)) y) := by
            rw [hnx, hk3]
            show fin cap (if ltF D (fl cap) then (match mulF D fw with | none => none | some y => it (fl cap) fw _ y) else none) = _
            rw [hlt, hmul]; rfl
          have r1 := run_mul_some 26 D fw y hmul
          have E := Lib.hid e
          have L := Lib.hid hlt
          clear hnx hlt hm e hk3 hmul
          go_wp2
          go_roundw
          case rel => exact ⟨y, n + 1, by omega, by go_num, rfl, hbr, d2, d4, E.out⟩
          case measure => simp [intOf]; omega
        | none =>
          obtain ⟨N, hN, r1⟩ := run_mul_none 26 D fw hmul wr
          have e : nx base cap fw k = fin cap (it (fl cap) fw ((min k 1000).toNat - (n + 1)) N) := by
            rw [hnx, hk3]
            show fin cap (if ltF D (fl cap) then (match mulF D fw with | none => none | some y => it (fl cap) fw _ y) else none) = _
            rw [hlt, hmul]
            have hnn := nan_not_lt (most := fl cap) hN
            cases (min k 1000).toNat - (n + 1) <;> (show cap = fin cap (if ltF N (fl cap) then _ else none); rw [hnn]; rfl)
          have E := Lib.hid e
          clear hnx hlt hm e hk3 hmul hN
          go_wp2
          go_roundw
          case rel => exact ⟨N, n + 1, by omega, by go_num, rfl, hbr.drew, d2, d4, E.out⟩
          case measure => simp [intOf]; omega

set_option maxHeartbeats 400000 in
theorem next_bad (mf base cap tmo k : Int) (fw : Nat) (w : World) (h : ¬ Fine base cap k) :
    Calls Try.prog 20 #[.agg #[.int .i64 mf, .int .i64 base, .int .i64 cap, .int .i64 tmo, .float .f64 fw], .int .i64 k] w fun e w' => e = .returned (.tuple #[.int .i64 0, .int .i64 3]) ∧ Below w.heap.size w w' := by
  have H := Lib.hid h; clear h
  go_enter Try.func20, Try.ntmps20
  go_wp2_with (go_at_call 58; refine (check_bad _ _ _ _ _ _ _ H.out).mono ?_; rintro e w1 ⟨rfl, hb⟩)
  obtain ⟨hB, hS⟩ := below_one hb
  go_wp2
  go_ret2
  exact ⟨rfl, hB⟩
end Go.Proofs.Ytmollbnhndjjeaa
