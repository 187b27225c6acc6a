/- DeframeNone: the walk. -/
import Derived.Test.YtmollbnhndjjeaaBf
import Derived.Test.YtmollbnhndjjeaaFr
namespace Go.Proofs.Ytmollbnhndjjeaa
open Go.RowKit

theorem below_step {w wr w' : World} (h : Below w.heap.size w wr) (k : Below wr.heap.size wr w') : Below w.heap.size w w' := h.trans (k.mono h.size)

theorem held_new (p : Nat) (n : Int) (fv : Value) (w : World) (h : DfCells w p (Df.new n) (.slice none 0 0) fv) : Calls Try.prog 47 #[.pointer (some ⟨p, 0, none⟩)] w fun e w' => e = .returned (.int .i64 0) ∧ w = w' :=
  held_walk p (Df.new n) (.slice none 0 0) fv w h ⟨none, 0, rfl⟩ (by show ((0 : Nat) : Int) ≤ 65536; decide)

set_option maxRecDepth 100000 in
set_option maxHeartbeats 4000000 in
theorem dnone_walk (n : Int) (a : Option Addr) (len cap : Nat) (zs : List Int) (w : World) (h0 : -9223372036854775808 ≤ n) (h1 : n ≤ 9223372036854775807) (_ : Fr.IsInts .u8 w a len cap zs) :
    Calls Try.prog 13 #[.int .i64 n, .slice a len cap] w fun e w' => e = .returned (.bool true) ∧ Below w.heap.size w w' := by
  by_cases hn : 1 ≤ n ∧ n ≤ 65536
  · obtain ⟨n0, n1⟩ := hn
    go_enter Try.func13, Try.ntmps13
    go_wp2_with (first | (go_at_call 45; refine (feed_nil _ _).mono ?_; rintro e w3 ⟨rfl, rfl⟩) | (go_at_call 51; refine (reset_nil _).mono ?_; rintro e w3 ⟨rfl, rfl⟩) | (go_at_call 48; refine (junk_nil _).mono ?_; rintro e w3 ⟨rfl, rfl⟩) | (go_at_call 50; refine (broken_nil _).mono ?_; rintro e w3 ⟨rfl, rfl⟩) | (go_at_call 49; refine (over_nil _).mono ?_; rintro e w3 ⟨rfl, rfl⟩) | (go_at_call 47; refine (held_nil _).mono ?_; rintro e w3 ⟨rfl, rfl⟩))
    refine (dnew_ok n _ n0 n1).mono ?_
    rintro e w1 ⟨p, rfl, hr, hb, hp, hp2⟩
    have R := Lib.hid hr
    have B1 := Lib.hid hb
    clear hr hb
    go_wp2_with fail
    refine (alive05 _).mono ?_
    rintro e w2 ⟨rfl, hb⟩
    have R2 := R.out.below hb
    have B2 := Lib.hid (below_step B1.out hb)
    have C := Lib.hid (cells_of R2.1)
    clear hb R2 R B1
    go_wp2_with (go_at_call 47; refine (held_new _ _ _ _ C.out).mono ?_; rintro e w3 ⟨rfl, rfl⟩)
    go_ret
    exact ⟨rfl, B2.out⟩
  · have hh : n < 1 ∨ 65536 < n := by omega
    have HH := Lib.hid hh
    clear hn
    rcases hh with hh | hh
    all_goals
      go_enter Try.func13, Try.ntmps13
      go_wp2_with (first | (go_at_call 45; refine (feed_nil _ _).mono ?_; rintro e w3 ⟨rfl, rfl⟩) | (go_at_call 51; refine (reset_nil _).mono ?_; rintro e w3 ⟨rfl, rfl⟩) | (go_at_call 48; refine (junk_nil _).mono ?_; rintro e w3 ⟨rfl, rfl⟩) | (go_at_call 50; refine (broken_nil _).mono ?_; rintro e w3 ⟨rfl, rfl⟩) | (go_at_call 49; refine (over_nil _).mono ?_; rintro e w3 ⟨rfl, rfl⟩) | (go_at_call 47; refine (held_nil _).mono ?_; rintro e w3 ⟨rfl, rfl⟩))
      refine (dnew_bad n _ h0 h1 HH.out).mono ?_
      rintro e w1 ⟨rfl, hb⟩
      have B1 := Lib.hid hb
      clear hb
      go_wp2_with fail
      refine (alive05 _).mono ?_
      rintro e w2 ⟨rfl, hb⟩
      have B2 := Lib.hid (below_step B1.out hb)
      clear hb B1
      go_wp2_with fail
      go_ret
      exact ⟨rfl, B2.out⟩
end Go.Proofs.Ytmollbnhndjjeaa
