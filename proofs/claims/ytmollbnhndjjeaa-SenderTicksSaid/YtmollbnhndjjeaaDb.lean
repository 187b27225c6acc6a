/- Layer 12's example ('alive'), as a walk. -/
import Derived.Test.YtmollbnhndjjeaaDa
import Derived.LoopN
import Derived.Outline
namespace Go.Proofs.Ytmollbnhndjjeaa
open Go.RowKit

@[go_sem] theorem run_store_float (P : Program) (w : World) (a : Addr) (m : Mode) (k : FloatKind) (b : Nat) : (store a (.float k b) m).run P w = stored P w a (.float k b) m := run_store P w a _ m rfl
theorem frombits (n : Int) (w : World) : (callFunc 22 #[.int .u64 n]).run Try.prog w = .ok (.value (.float .f64 n.toNat)) w := by
  rw [run_callFunc_extern Try.func22 (by kernel_rfl) (by kernel_rfl) (by kernel_rfl) (e := Extern.MathFloatBits.float64frombits) (by kernel_rfl)]
  rfl

set_option maxHeartbeats 400000 in
theorem nan_any (w : World) : Calls Try.prog 59 #[] w fun e w' => e = .returned (.float .f64 9221120237041090561) ∧ w = w' := by
  have fb := frombits
  go_enter Try.func59, Try.ntmps59
  go_wp2
  go_ret
  exact ⟨rfl, rfl⟩

theorem ex1 : nx 3 20 4611686018427387904 2 = 12 := by decide +kernel
theorem ex00 : nx 3 20 4611686018427387904 0 = 3 := by decide +kernel
theorem ex01 : nx 3 20 4611686018427387904 1 = 6 := by decide +kernel
theorem ex10 : nx 3 20 9221120237041090561 0 = 3 := by decide +kernel
theorem ex11 : nx 3 20 9221120237041090561 1 = 20 := by decide +kernel
theorem ex12 : nx 3 20 9221120237041090561 2 = 20 := by decide +kernel
theorem ex20 : nx 3 20 13830554455654793216 0 = 3 := by decide +kernel
theorem ex21 : nx 3 20 13830554455654793216 1 = 0 := by decide +kernel
theorem ex22 : nx 3 20 13830554455654793216 2 = 3 := by decide +kernel
theorem ex30 : nx 3 20 0 0 = 3 := by decide +kernel
theorem ex31 : nx 3 20 0 1 = 0 := by decide +kernel
theorem ex32 : nx 3 20 0 2 = 0 := by decide +kernel
theorem next_ex (fw : Nat) (k v : Int) (hk : 0 ≤ k) (h : nx 3 20 fw k = v) (w : World) :
    Calls Try.prog 20 #[.agg #[.int .i64 0, .int .i64 3, .int .i64 20, .int .i64 0, .float .f64 fw], .int .i64 k] w fun e w' => e = .returned (.tuple #[.int .i64 v, .int .i64 0]) ∧ Below w.heap.size w w' := by
  subst h
  exact next_ok 0 3 20 0 k fw w ⟨by omega, by omega, hk, by omega, by omega⟩

/-- The example's table. -/
def exF : Nat → Nat | 0 => 4611686018427387904 | 1 => 9221120237041090561 | 2 => 13830554455654793216 | _ => 0
def exA : Nat → Nat → Int | 0, 0 => 3 | 0, 1 => 6 | 0, _ => 12 | 1, 0 => 3 | 1, _ => 20 | 2, 0 => 3 | 2, 1 => 0 | 2, _ => 3 | _, 0 => 3 | _, _ => 0
theorem exFA (j k : Nat) (hj : j < 4) (hk : k < 3) : nx 3 20 (exF j) k = exA j k := by
  have h1 : j = 0 ∨ j = 1 ∨ j = 2 ∨ j = 3 := by omega
  have h2 : k = 0 ∨ k = 1 ∨ k = 2 := by omega
  rcases h1 with rfl | rfl | rfl | rfl <;> rcases h2 with rfl | rfl | rfl
  · exact ex00
  · exact ex01
  · exact ex1
  · exact ex10
  · exact ex11
  · exact ex12
  · exact ex20
  · exact ex21
  · exact ex22
  · exact ex30
  · exact ex31
  · exact ex32
/-- The table in memory. -/
def ExTab (w : World) (B : Nat) : Prop := ∀ j, j < 4 → w.cell? ⟨B, j * 4, none⟩ = some (.float .f64 (exF j)) ∧ w.cell? ⟨B, j * 4 + 1, none⟩ = some (.int .i64 (exA j 0)) ∧ w.cell? ⟨B, j * 4 + 2, none⟩ = some (.int .i64 (exA j 1)) ∧ w.cell? ⟨B, j * 4 + 3, none⟩ = some (.int .i64 (exA j 2))

theorem ExTab.below {w w' : World} {B : Nat} (h : ExTab w B) (hb : Below w.heap.size w w') (hB : B < w.heap.size) : ExTab w' B := by
  intro j hj
  obtain ⟨a, b, c, d⟩ := h j hj
  refine ⟨?_, ?_, ?_, ?_⟩
  · rw [hb.cell (p := ⟨B, _, none⟩) hB]; exact a
  · rw [hb.cell (p := ⟨B, _, none⟩) hB]; exact b
  · rw [hb.cell (p := ⟨B, _, none⟩) hB]; exact c
  · rw [hb.cell (p := ⟨B, _, none⟩) hB]; exact d
theorem idx3 (x0 x1 x2 x : Value) (k : Nat) (h : (k = 0 ∧ x = x0) ∨ (k = 1 ∧ x = x1) ∨ (k = 2 ∧ x = x2)) (w : World) : (Instr.index 37 (.agg #[x0, x1, x2]) (.int .i64 k)).run Try.prog w = .ok x w := by
  rcases h with ⟨rfl, rfl⟩ | ⟨rfl, rfl⟩ | ⟨rfl, rfl⟩ <;> kernel_rfl
/-- Behind a call: blocks that stood there stand. -/
theorem below_call {B : Nat} {w wr w1 : World} (h : Below B w wr) (hB : B ≤ wr.heap.size) (k : Below wr.heap.size wr w1) : Below B w w1 := h.trans (k.mono hB)

set_option maxRecDepth 100000 in
set_option maxHeartbeats 1000000 in
theorem alive12 (w : World) : Calls Try.prog 21 #[] w fun e w' => e = .returned (.bool true) ∧ Below w.heap.size w w' := by
  go_enter Try.func21, Try.ntmps21
  go_wp2_with (first | (go_at_call 20; refine (next_ex _ _ _ (by omega) ex1 _).mono ?_; rintro e w1 ⟨rfl, hb⟩) | (go_at_call 59; refine (nan_any _).mono ?_; rintro e w2 ⟨rfl, rfl⟩))
  go_loopw [31] (fun i wr => ∃ j : Nat, j ≤ 4 ∧ i = .int .i64 j ∧ Below w.heap.size w wr ∧ w1.heap.size < wr.heap.size ∧ ExTab wr w1.heap.size) (fun i _ => 5 - (intOf i).toNat)
  case atStart =>
    refine ⟨0, by omega, rfl, hb.alloc hb.size _, by simp, ?_⟩
    intro j hj
    have h1 : j = 0 ∨ j = 1 ∨ j = 2 ∨ j = 3 := by omega
    rcases h1 with rfl | rfl | rfl | rfl <;> refine ⟨?_, ?_, ?_, ?_⟩ <;> exact World.cell?_alloc_new _ _ _ _
  case round =>
    obtain ⟨j, hj, rfl, hbr, hsz, hT⟩ := hrel
    obtain ⟨wo, rfl⟩ : ∃ wo : World, wo = wr := ⟨_, rfl⟩
    have T := Lib.hid hT
    by_cases hlt : j < 4
    · obtain ⟨c0, c1, c2, c3⟩ := hT j hlt
      clear hT
      have hlb : decide ((j : Int) < 4) = true := by simp; omega
      go_wp2_with fail
      have hw := hb.size
      go_loopw [37] (fun i wq => ∃ k : Nat, k ≤ 3 ∧ i = .int .i64 k ∧ Below w.heap.size w wq ∧ wo.heap.size < wq.heap.size ∧ ExTab wq w1.heap.size ∧ wq.cell? ⟨wo.heap.size, 0, none⟩ = some (.float .f64 (exF j))) (fun i _ => 4 - (intOf i).toNat)
      case atStart =>
        exact ⟨0, by omega, rfl, hbr.alloc hbr.size _, by simp, T.out.below ((Below.refl _ _).alloc (Nat.le_refl _) _) hsz, World.cell?_alloc_new _ _ _ _⟩
      case round =>
        obtain ⟨k, hk, rfl, hbq, hsq, hTq, f0⟩ := hrel
        have Tq := Lib.hid hTq; clear hTq
        by_cases hk3 : k < 3
        · have hi := idx3 (.int .i64 (exA j 0)) (.int .i64 (exA j 1)) (.int .i64 (exA j 2)) (.int .i64 (exA j k)) k (by
            have h2 : k = 0 ∨ k = 1 ∨ k = 2 := by omega
            rcases h2 with rfl | rfl | rfl <;> simp)
          clear c0 c1 c2 c3
          go_wp2_with (go_at_call 20; refine (next_ex (exF j) k (exA j k) (by omega) (exFA j k hlt hk3) _).mono ?_; rintro e w3 ⟨rfl, hb3⟩)
          have hs3 := hb3.size
          go_roundw
          case rel => exact ⟨k + 1, by omega, by go_num, below_call hbq hbq.size hb3, by omega, Tq.out.below hb3 (by omega), by rw [hb3.cell (p := ⟨wo.heap.size, 0, none⟩) hsq]; exact f0⟩
          case measure => simp [intOf]; omega
        · go_wp2_with fail
          go_roundw
          case rel => exact ⟨j + 1, by omega, by go_num, hbq, by omega, Tq.out⟩
          case measure => simp [intOf]; omega
    · go_wp2_with fail
      go_ret
      exact ⟨rfl, hbr⟩
end Go.Proofs.Ytmollbnhndjjeaa
