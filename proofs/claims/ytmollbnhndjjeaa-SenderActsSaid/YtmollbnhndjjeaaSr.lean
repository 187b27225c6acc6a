/- The walks of the reference's sender (layer 16). -/
import Derived.Test.YtmollbnhndjjeaaSe
import Derived.Test.YtmollbnhndjjeaaDr
namespace Go.Proofs.Ytmollbnhndjjeaa
open Go.RowKit

def RNewAt (c : Cf) (s : St) (w : World) (e : Ending) (w' : World) : Prop :=
  ∃ S, e = .returned (.tuple #[.pointer (some ⟨S, 0, none⟩), .bool true]) ∧ RefAt w' S c s ∧ Below w.heap.size w w' ∧ w.heap.size ≤ S

set_option maxHeartbeats 1000000 in
theorem rnew_ok (c : Cf) (p : Int) (w : World) (hc : c.Fair) (h0 : 0 ≤ p) (h1 : p ≤ 1099511627776) :
    Calls Try.prog 52 #[.agg #[.int .i64 c.mf, .int .i64 c.base, .int .i64 c.cap, .int .i64 c.tmo, .float .f64 c.f], .int .i64 p] w (RNewAt c ⟨p, p, 0, 0, 0⟩ w) := by
  have F := Lib.hid (show Fine c.base c.cap 0 from ⟨hc.b0, hc.c0, Int.le_refl _, hc.b1, hc.c1⟩)
  have t0 := hc.t0
  have t1 := hc.t1
  clear hc
  go_enter Try.func52, Try.ntmps52
  go_wp2_with fail; refine (rnext_ok _ _ _ _ _ _ _ F.out).mono ?_; rintro e w1 ⟨rfl, hb⟩
  have C1 := (CfgAt.new w c.mf c.base c.cap c.tmo c.f).below hb
  have S1 := below_one hb
  clear hb
  obtain ⟨-, c0, c1, c2, c3, c4⟩ := id C1
  have C1 := Lib.hid C1
  go_wp2
  go_ret2
  exact ⟨_, rfl, heap_alloc_new _ _, S1.1.alloc S1.1.size _, S1.1.size⟩

set_option maxHeartbeats 1000000 in
theorem rnew_bad (c : Cf) (p : Int) (w : World) (h : ¬ (c.Fair ∧ 0 ≤ p ∧ p ≤ 1099511627776)) :
    Calls Try.prog 52 #[.agg #[.int .i64 c.mf, .int .i64 c.base, .int .i64 c.cap, .int .i64 c.tmo, .float .f64 c.f], .int .i64 p] w fun e w' => e = .returned (.tuple #[.pointer none, .bool false]) ∧ Below w.heap.size w w' := by
  by_cases hF : Fine c.base c.cap 0
  · have F := Lib.hid hF
    have hh : c.tmo < 1 ∨ 1099511627776 < c.tmo ∨ p < 0 ∨ 1099511627776 < p := by
      by_cases h1 : 1 ≤ c.tmo ∧ c.tmo ≤ 1099511627776 ∧ 0 ≤ p ∧ p ≤ 1099511627776
      · exact absurd ⟨⟨hF.b0, hF.c0, hF.b1, hF.c1, h1.1, h1.2.1⟩, h1.2.2⟩ h
      · omega
    have HH := Lib.hid hh
    clear h hF hh
    go_enter Try.func52, Try.ntmps52
    go_wp2_with fail; refine (rnext_ok _ _ _ _ _ _ _ F.out).mono ?_; rintro e w1 ⟨rfl, hb⟩
    have C1 := (CfgAt.new w c.mf c.base c.cap c.tmo c.f).below hb
    have S1 := below_one hb
    clear hb
    obtain ⟨-, c0, c1, c2, c3, c4⟩ := id C1
    have C1 := Lib.hid C1
    rcases HH.out with h1 | h1 | h1 | h1
    · go_wp2
      all_goals (go_ret2; exact ⟨rfl, S1.1⟩)
    · go_wp2
      all_goals (go_ret2; exact ⟨rfl, S1.1⟩)
    · go_wp2
      all_goals (go_ret2; exact ⟨rfl, S1.1⟩)
    · go_wp2
      all_goals (go_ret2; exact ⟨rfl, S1.1⟩)
  · have F := Lib.hid hF
    clear h hF
    go_enter Try.func52, Try.ntmps52
    go_wp2_with fail; refine (rnext_bad _ _ _ _ _ _ _ F.out).mono ?_; rintro e w1 ⟨rfl, hb⟩
    have S1 := below_one hb
    clear hb
    go_wp2
    go_ret2
    exact ⟨rfl, S1.1⟩

set_option maxHeartbeats 1000000 in
theorem roffer_walk (S : Nat) (c : Cf) (s : St) (n : Int) (w : World) (h : RefAt w S c s) :
    Calls Try.prog 53 #[.pointer (some ⟨S, 0, none⟩), .int .i64 n] w fun e w' => e = .returned (.int .i64 (s.offerE n)) ∧ RefAt w' S c (s.offer n) ∧ Kept S w w' := by
  have H := Lib.hid h
  obtain ⟨c0, c1, c2, c3, c4, c5, c6, c7, c8, c9, c10, fr⟩ := h.cells
  clear h
  by_cases hn : s.known ≤ n ∧ n ≤ 1099511627776
  · have hb : s.offerOk n = true := by unfold St.offerOk; exact decide_eq_true hn
    obtain ⟨n1, n2⟩ := hn
    go_enter Try.func53, Try.ntmps53
    go_wp2
    go_ret
    exact ⟨by unfold St.offerE; rw [if_pos hb]; rfl, by unfold St.offer; rw [if_pos hb]; exact Joins.block_setCell H.out _, Kept.setCell _ _ _ _⟩
  · have hb : ¬ s.offerOk n = true := by unfold St.offerOk; rw [decide_eq_true_eq]; exact hn
    rcases Int.lt_or_le n s.known with h1 | h1
    · clear hn
      go_enter Try.func53, Try.ntmps53
      go_wp2
      go_ret
      exact ⟨by unfold St.offerE; rw [if_neg hb]; rfl, by unfold St.offer; rw [if_neg hb]; exact H.out, Kept.refl _ _⟩
    · have h2 : 1099511627776 < n := by omega
      clear hn
      go_enter Try.func53, Try.ntmps53
      go_wp2
      go_ret
      exact ⟨by unfold St.offerE; rw [if_neg hb]; rfl, by unfold St.offer; rw [if_neg hb]; exact H.out, Kept.refl _ _⟩

set_option maxHeartbeats 1000000 in
theorem rfail_walk (S : Nat) (c : Cf) (s : St) (w : World) (h : RefAt w S c s) (hc : c.Fair) (ho : s.Ok) :
    Calls Try.prog 68 #[.pointer (some ⟨S, 0, none⟩)] w fun e w' => e = .returned (.tuple #[]) ∧ RefAt w' S c (s.fail c) ∧ Kept S w w' := by
  have H := Lib.hid h
  obtain ⟨c0, c1, c2, c3, c4, c5, c6, c7, c8, c9, c10, fr⟩ := h.cells
  clear h
  have r0 := ho.r0
  have r1 := ho.r1
  have F := Lib.hid (show Fine c.base c.cap s.tries from ⟨hc.b0, hc.c0, ho.r0, hc.b1, hc.c1⟩)
  obtain ⟨d0, d1⟩ := Cf.del_range hc s.tries
  obtain ⟨D, hD⟩ : ∃ D, c.del s.tries = D := ⟨_, rfl⟩
  rw [hD] at d0 d1
  have hD' : nx c.base c.cap c.f s.tries = D := hD
  have HD := Lib.hid hD
  have HD' := Lib.hid hD'
  clear hc ho hD hD'
  go_enter Try.func68, Try.ntmps68
  go_wp2_with fail
  go_region_with (go_at_call 35; refine (rnext_ok _ _ _ _ _ _ _ F.out).mono ?_; rintro e w1 ⟨rfl, hb⟩; rw [HD'.out])
  all_goals
    have hb1 : Below w.heap.size w w1 := ((Below.refl w.heap.size w).drew).trans hb
    clear hb c0 c1 c2 c3 c4 c5 c6 c7 c8 c9 c10 fr
    have H1 := Lib.hid (H.out.below hb1)
    have K1 := Lib.hid (Kept.of_below (S := S) hb1)
    clear hb1 H
    obtain ⟨c0, c1, c2, c3, c4, c5, c6, c7, c8, c9, c10, fr⟩ := H1.out.cells
    by_cases hz : D = 0
    · subst hz
      rcases Int.lt_or_le s.tries 1099511627776 with ht | ht
      · have e : min (s.tries + 1) 1099511627776 = s.tries + 1 := by omega
        have E := Lib.hid e
        clear e
        go_wp2
        go_end0
        exact ⟨rfl, by unfold St.fail; rw [E.out, HD.out]; exact Joins.block_setCell (Joins.block_setCell (Joins.block_setCell (Joins.block_setCell H1.out _) _) _) _, K1.out.trans (((Kept.setCell _ _ _ _).trans (Kept.setCell _ _ _ _)).trans ((Kept.setCell _ _ _ _).trans (Kept.setCell _ _ _ _)))⟩
      · have e : min (s.tries + 1) 1099511627776 = s.tries := by omega
        have E := Lib.hid e
        clear e
        go_wp2
        go_end0
        exact ⟨rfl, by unfold St.fail; rw [E.out, HD.out]; exact Joins.block_setCell (Joins.block_setCell (Joins.block_setCell H1.out _) _) _, K1.out.trans (((Kept.setCell _ _ _ _).trans (Kept.setCell _ _ _ _)).trans (Kept.setCell _ _ _ _))⟩
    · have hp : 0 < D := by omega
      rcases Int.lt_or_le s.tries 1099511627776 with ht | ht
      · have e : min (s.tries + 1) 1099511627776 = s.tries + 1 := by omega
        have E := Lib.hid e
        have HZ := Lib.hid hz
        clear e hz
        go_wp2
        go_end0
        exact ⟨rfl, by unfold St.fail; rw [E.out, HD.out, St.rest_pos _ HZ.out]; exact Joins.block_setCell (Joins.block_setCell (Joins.block_setCell (Joins.block_setCell H1.out _) _) _) _, K1.out.trans (((Kept.setCell _ _ _ _).trans (Kept.setCell _ _ _ _)).trans ((Kept.setCell _ _ _ _).trans (Kept.setCell _ _ _ _)))⟩
      · have e : min (s.tries + 1) 1099511627776 = s.tries := by omega
        have E := Lib.hid e
        have HZ := Lib.hid hz
        clear e hz
        go_wp2
        go_end0
        exact ⟨rfl, by unfold St.fail; rw [E.out, HD.out, St.rest_pos _ HZ.out]; exact Joins.block_setCell (Joins.block_setCell (Joins.block_setCell H1.out _) _) _, K1.out.trans (((Kept.setCell _ _ _ _).trans (Kept.setCell _ _ _ _)).trans (Kept.setCell _ _ _ _))⟩
end Go.Proofs.Ytmollbnhndjjeaa
