/- DelayBounds: the walk. -/
import Derived.Test.YtmollbnhndjjeaaDb
namespace Go.Proofs.Ytmollbnhndjjeaa
open Go.RowKit Fl

theorem ret_bool' {b : Bool} (h : b = true) : Ending.returned (.bool b) = .returned (.bool true) := by rw [h]
theorem one_is : Is 4607182418800017408 1 := by
  have h : fl 1 = 4607182418800017408 := by decide +kernel
  rw [← h]
  exact fl_is 1 (by omega) (by omega)
theorem atLeast1_of {f : Nat} (h : (FloatKind.f64.format.order f 4607182418800017408 == some Ordering.gt || FloatKind.f64.format.order f 4607182418800017408 == some Ordering.eq) = true) : AtLeast1 f := by
  have e : FloatKind.f64.format.order f 4607182418800017408 = Ieee.double.order f 4607182418800017408 := rfl
  rw [e] at h
  rcases Nat.lt_trichotomy (rg f) inf with h1 | h1 | h1
  · rw [order_fin h1 one_is.1, one_is.sv] at h
    have hge : ((1 * U : Nat) : Int) ≤ Fl.sv f := by
      rcases Int.lt_or_le (Fl.sv f) ((1 * U : Nat) : Int) with hlt | hge
      · exfalso
        have : compare (Fl.sv f) ((1 * U : Nat) : Int) = .lt := by
          show compareOfLessAndEq _ _ = _
          unfold compareOfLessAndEq
          rw [if_pos hlt]
        rw [this] at h
        exact absurd h (by decide)
      · exact hge
    have hu := U_pos
    unfold Fl.sv at hge
    cases hs : sg f with
    | true => rw [hs] at hge; simp only [if_true] at hge; omega
    | false =>
      rw [hs] at hge
      simp only [Bool.false_eq_true, if_false] at hge
      exact ⟨hs, .inr ⟨h1, by omega⟩⟩
  · rw [order_inf_fin h1 one_is.1] at h
    cases hs : sg f with
    | true => rw [hs] at h; exact absurd h (by decide)
    | false => exact ⟨hs, .inl h1⟩
  · rw [order_nan (.inl h1)] at h
    exact absurd h (by decide)

/-- A config in memory. -/
structure CfgAt (w : World) (B : Nat) (mf b l t : Int) (f : Nat) : Prop where
  lt : B < w.heap.size
  c0 : w.cell? ⟨B, 0, none⟩ = some (.int .i64 mf)
  c1 : w.cell? ⟨B, 1, none⟩ = some (.int .i64 b)
  c2 : w.cell? ⟨B, 2, none⟩ = some (.int .i64 l)
  c3 : w.cell? ⟨B, 3, none⟩ = some (.int .i64 t)
  c4 : w.cell? ⟨B, 4, none⟩ = some (.float .f64 f)
theorem CfgAt.below {w w' : World} {B : Nat} {mf b l t : Int} {f : Nat} (h : CfgAt w B mf b l t f) (hb : Below w.heap.size w w') : CfgAt w' B mf b l t f := by
  obtain ⟨h0, h1, h2, h3, h4, h5⟩ := h
  refine ⟨Nat.lt_of_lt_of_le h0 hb.size, ?_, ?_, ?_, ?_, ?_⟩
  · rw [hb.cell (p := ⟨B, _, none⟩) h0]; exact h1
  · rw [hb.cell (p := ⟨B, _, none⟩) h0]; exact h2
  · rw [hb.cell (p := ⟨B, _, none⟩) h0]; exact h3
  · rw [hb.cell (p := ⟨B, _, none⟩) h0]; exact h4
  · rw [hb.cell (p := ⟨B, _, none⟩) h0]; exact h5
theorem CfgAt.new (w : World) (mf b l t : Int) (f : Nat) : CfgAt (w.alloc (.cells #[.int .i64 mf, .int .i64 b, .int .i64 l, .int .i64 t, .float .f64 f] 28)) w.heap.size mf b l t f :=
  ⟨by simp, World.cell?_alloc_new _ _ _ _, World.cell?_alloc_new _ _ _ _, World.cell?_alloc_new _ _ _ _, World.cell?_alloc_new _ _ _ _, World.cell?_alloc_new _ _ _ _⟩
theorem CfgAt.drew {w : World} {B : Nat} {mf b l t : Int} {f : Nat} (h : CfgAt w B mf b l t f) : CfgAt w.drew B mf b l t f := h.below (Below.refl _ _).drew

/-- What a round of DelayBounds asks. -/
structure Rd (b l : Int) (f : Nat) (n : Nat) (L x : Int) : Prop where
  x0 : 0 ≤ x
  x1 : x ≤ l
  first : n = 0 → x = min b l
  up : AtLeast1 f → L ≤ x

set_option maxRecDepth 100000 in
set_option maxHeartbeats 1000000 in
theorem bounds_walk (a b bits k : Int) (w : World) (_ : -9223372036854775808 ≤ a) (_ : a ≤ 9223372036854775807) (_ : -9223372036854775808 ≤ b) (_ : b ≤ 9223372036854775807) (_ : 0 ≤ bits) (_ : bits ≤ 18446744073709551615) (hk0 : 0 ≤ k) (hk1 : k ≤ 255) :
    Calls Try.prog 4 #[.agg #[.int .i64 a, .int .i64 b], .int .u64 bits, .int .u8 k] w fun e w' => e = .returned (.bool true) ∧ Below w.heap.size w w' := by
  obtain ⟨b0, b1⟩ := tk_range a
  obtain ⟨l0, l1⟩ := tk_range b
  have fb := frombits
  go_enter Try.func4, Try.ntmps4
  go_wp2
  go_region
  go_wp2_with (first | (go_at_call 19; refine (ticks_any _ _).mono ?_; rintro e w2 ⟨rfl, rfl⟩))
  have hsz : (w.alloc (.cells #[.int .i64 a, .int .i64 b] 31)).heap.size = w.heap.size + 1 := by simp
  go_loopw [10, 28] (fun last i wr => ∃ (L : Int) (n : Nat), (n : Int) ≤ k + 1 ∧ i = .int .i64 n ∧ last = .int .i64 L ∧ Below w.heap.size w wr ∧ CfgAt wr (w.heap.size + 1) 0 (tk a) (tk b) 0 bits.toNat ∧ (L = 0 ∨ ∃ m : Nat, n = m + 1 ∧ L = nx (tk a) (tk b) bits.toNat m)) (fun _ i _ => 300 - (intOf i).toNat)
  case atStart => exact ⟨0, 0, by omega, rfl, rfl, (((Below.refl _ _).alloc (Nat.le_refl _) _).alloc (by simp) _).drew, by rw [← hsz]; exact (CfgAt.new _ _ _ _ _ _).drew, .inl rfl⟩
  case round =>
    obtain ⟨L, n, hn, rfl, rfl, hbr, hcfg, hL⟩ := hrel
    have C := Lib.hid hcfg
    obtain ⟨clt, c0, c1, c2, c3, c4⟩ := hcfg
    clear hsz
    by_cases hnk : (n : Int) < k + 1
    · have hx := nx_range (base := tk a) (fw := bits.toNat) (k := n) l0 l1
      have hf : n = 0 → nx (tk a) (tk b) bits.toNat n = min (tk a) (tk b) := by
        rintro rfl; exact nx_zero b0 b1 l0 l1
      have hu : AtLeast1 bits.toNat → L ≤ nx (tk a) (tk b) bits.toNat n := by
        intro hA
        rcases hL with rfl | ⟨m, rfl, rfl⟩
        · exact hx.1
        · exact nx_mono b0 b1 l0 l1 hA (by omega)
      obtain ⟨x, hxe⟩ : ∃ x, nx (tk a) (tk b) bits.toNat n = x := ⟨_, rfl⟩
      rw [hxe] at hx hf hu
      obtain ⟨hx0, hx1⟩ := hx
      have XE := Lib.hid hxe
      cases hg : (FloatKind.f64.format.order bits.toNat 4607182418800017408 == some Ordering.gt || FloatKind.f64.format.order bits.toNat 4607182418800017408 == some Ordering.eq) with
      | true =>
        have hLx := hu (atLeast1_of hg)
        by_cases hn0 : n = 0
        · have hxm := hf hn0
          have hn1 : ((n : Int) == 0) = true := by simp [hn0]
          clear hf hu hL hn0
          rcases Int.lt_or_le (tk b) (tk a) with hl | hl
          · have hx2 : (x != tk b) = false := by simp; omega
            clear hxm
            go_wp2_with (go_at_call 20; refine (next_ok _ _ _ _ _ _ _ ⟨b0, l0, by omega, b1, l1⟩).mono ?_; rintro e w3 ⟨rfl, hb3⟩; rw [XE.out]; clear c0 c1 c2 c3 c4; obtain ⟨-, c0, c1, c2, c3, c4⟩ := C.out.below hb3)
            go_roundw
            case rel => exact ⟨x, n + 1, by omega, by go_num, rfl, below_call hbr hbr.size hb3, C.out.below hb3, .inr ⟨n, rfl, XE.out.symm⟩⟩
            case measure => simp [intOf]; omega
          · have hx2 : (x != tk a) = false := by simp; omega
            clear hxm
            go_wp2_with (go_at_call 20; refine (next_ok _ _ _ _ _ _ _ ⟨b0, l0, by omega, b1, l1⟩).mono ?_; rintro e w3 ⟨rfl, hb3⟩; rw [XE.out]; clear c0 c1 c2 c3 c4; obtain ⟨-, c0, c1, c2, c3, c4⟩ := C.out.below hb3)
            go_roundw
            case rel => exact ⟨x, n + 1, by omega, by go_num, rfl, below_call hbr hbr.size hb3, C.out.below hb3, .inr ⟨n, rfl, XE.out.symm⟩⟩
            case measure => simp [intOf]; omega
        · clear hf hu hL
          go_wp2_with (go_at_call 20; refine (next_ok _ _ _ _ _ _ _ ⟨b0, l0, by omega, b1, l1⟩).mono ?_; rintro e w3 ⟨rfl, hb3⟩; rw [XE.out]; clear c0 c1 c2 c3 c4; obtain ⟨-, c0, c1, c2, c3, c4⟩ := C.out.below hb3)
          go_roundw
          case rel => exact ⟨x, n + 1, by omega, by go_num, rfl, below_call hbr hbr.size hb3, C.out.below hb3, .inr ⟨n, rfl, XE.out.symm⟩⟩
          case measure => simp [intOf]; omega
      | false =>
        by_cases hn0 : n = 0
        · have hxm := hf hn0
          have hn1 : ((n : Int) == 0) = true := by simp [hn0]
          clear hf hu hL hn0
          rcases Int.lt_or_le (tk b) (tk a) with hl | hl
          · have hx2 : (x != tk b) = false := by simp; omega
            clear hxm
            go_wp2_with (go_at_call 20; refine (next_ok _ _ _ _ _ _ _ ⟨b0, l0, by omega, b1, l1⟩).mono ?_; rintro e w3 ⟨rfl, hb3⟩; rw [XE.out]; clear c0 c1 c2 c3 c4; obtain ⟨-, c0, c1, c2, c3, c4⟩ := C.out.below hb3)
            go_roundw
            case rel => exact ⟨x, n + 1, by omega, by go_num, rfl, below_call hbr hbr.size hb3, C.out.below hb3, .inr ⟨n, rfl, XE.out.symm⟩⟩
            case measure => simp [intOf]; omega
          · have hx2 : (x != tk a) = false := by simp; omega
            clear hxm
            go_wp2_with (go_at_call 20; refine (next_ok _ _ _ _ _ _ _ ⟨b0, l0, by omega, b1, l1⟩).mono ?_; rintro e w3 ⟨rfl, hb3⟩; rw [XE.out]; clear c0 c1 c2 c3 c4; obtain ⟨-, c0, c1, c2, c3, c4⟩ := C.out.below hb3)
            go_roundw
            case rel => exact ⟨x, n + 1, by omega, by go_num, rfl, below_call hbr hbr.size hb3, C.out.below hb3, .inr ⟨n, rfl, XE.out.symm⟩⟩
            case measure => simp [intOf]; omega
        · clear hf hu hL
          go_wp2_with (go_at_call 20; refine (next_ok _ _ _ _ _ _ _ ⟨b0, l0, by omega, b1, l1⟩).mono ?_; rintro e w3 ⟨rfl, hb3⟩; rw [XE.out]; clear c0 c1 c2 c3 c4; obtain ⟨-, c0, c1, c2, c3, c4⟩ := C.out.below hb3)
          go_roundw
          case rel => exact ⟨x, n + 1, by omega, by go_num, rfl, below_call hbr hbr.size hb3, C.out.below hb3, .inr ⟨n, rfl, XE.out.symm⟩⟩
          case measure => simp [intOf]; omega
    · go_wp2_with (go_at_call 21; refine (alive12 _).mono ?_; rintro e w3 ⟨rfl, hb3⟩)
      go_ret
      exact ⟨rfl, below_call hbr hbr.size hb3⟩
end Go.Proofs.Ytmollbnhndjjeaa
