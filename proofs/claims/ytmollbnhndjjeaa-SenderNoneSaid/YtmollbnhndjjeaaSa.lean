/- The walks of a sender's methods. -/
import Derived.Test.YtmollbnhndjjeaaSp
import Derived.Deep.RegionWith
namespace Go.Proofs.Ytmollbnhndjjeaa
open Go.RowKit

set_option maxHeartbeats 400000 in
theorem at_walk (S : Nat) (c : Cf) (s : St) (w : World) (h : SndAt w S c s) :
    Calls Try.prog 34 #[.pointer (some ⟨S, 0, none⟩)] w fun e w' => e = .returned (.int .i64 s.pos) ∧ w = w' := by
  obtain ⟨c0, c1, c2, c3, c4, c5, c6, c7, c8, c9, fr⟩ := h.cells
  clear h
  go_enter Try.func34, Try.ntmps34
  go_wp2
  go_ret
  exact ⟨rfl, rfl⟩
set_option maxHeartbeats 400000 in
theorem left_walk (S : Nat) (c : Cf) (s : St) (w : World) (h : SndAt w S c s) :
    Calls Try.prog 30 #[.pointer (some ⟨S, 0, none⟩)] w fun e w' => e = .returned (.int .i64 s.left) ∧ w = w' := by
  obtain ⟨c0, c1, c2, c3, c4, c5, c6, c7, c8, c9, fr⟩ := h.cells
  clear h
  go_enter Try.func30, Try.ntmps30
  go_wp2
  go_ret
  exact ⟨rfl, rfl⟩
set_option maxHeartbeats 400000 in
theorem tries_walk (S : Nat) (c : Cf) (s : St) (w : World) (h : SndAt w S c s) :
    Calls Try.prog 31 #[.pointer (some ⟨S, 0, none⟩)] w fun e w' => e = .returned (.int .i64 s.tries) ∧ w = w' := by
  obtain ⟨c0, c1, c2, c3, c4, c5, c6, c7, c8, c9, fr⟩ := h.cells
  clear h
  go_enter Try.func31, Try.ntmps31
  go_wp2
  go_ret
  exact ⟨rfl, rfl⟩
set_option maxHeartbeats 400000 in
theorem flying_walk (S : Nat) (c : Cf) (s : St) (w : World) (h : SndAt w S c s) :
    Calls Try.prog 39 #[.pointer (some ⟨S, 0, none⟩)] w fun e w' => e = .returned (.bool s.fly) ∧ w = w' := by
  obtain ⟨c0, c1, c2, c3, c4, c5, c6, c7, c8, c9, fr⟩ := h.cells
  clear h
  go_enter Try.func39, Try.ntmps39
  go_wp2
  go_ret
  exact ⟨rfl, rfl⟩
theorem St.rest_zero (s : St) : s.rest 0 = { s with kind := 0, left := 0 } := rfl
theorem St.rest_pos (s : St) {d : Int} (h : ¬ d = 0) : s.rest d = { s with kind := 2, left := d } := by unfold St.rest; rw [if_neg h]

set_option maxHeartbeats 400000 in
theorem rest_walk (S : Nat) (c : Cf) (s : St) (d : Int) (w : World) (h : SndAt w S c s) :
    Calls Try.prog 62 #[.pointer (some ⟨S, 0, none⟩), .int .i64 d] w fun e w' => e = .returned (.tuple #[]) ∧ SndAt w' S c (s.rest d) ∧ Kept S w w' := by
  have H := Lib.hid h
  obtain ⟨c0, c1, c2, c3, c4, c5, c6, c7, c8, c9, fr⟩ := h.cells
  clear h
  by_cases hd : d = 0
  · subst hd
    go_enter Try.func62, Try.ntmps62
    go_wp2
    go_end0
    exact ⟨rfl, Joins.block_setCell (Joins.block_setCell (Joins.block_setCell (Joins.block_setCell H.out _) _) _) _, ((Kept.setCell _ _ _ _).trans (Kept.setCell _ _ _ _)).trans ((Kept.setCell _ _ _ _).trans (Kept.setCell _ _ _ _))⟩
  · go_enter Try.func62, Try.ntmps62
    go_wp2
    go_end0
    exact ⟨rfl, by rw [St.rest_pos s hd]; exact Joins.block_setCell (Joins.block_setCell H.out _) _, (Kept.setCell _ _ _ _).trans (Kept.setCell _ _ _ _)⟩

theorem SndAt.setTries {w : World} {S : Nat} {c : Cf} {s : St} (h : SndAt w S c s) (t : Int) : SndAt (w.setCell ⟨S, 9, none⟩ (.int .i64 t)) S c { s with tries := t } := Joins.block_setCell h _

set_option maxHeartbeats 1000000 in
theorem fail_walk (S : Nat) (c : Cf) (s : St) (w : World) (h : SndAt w S c s) (hc : c.Fair) (ho : s.Ok) :
    Calls Try.prog 61 #[.pointer (some ⟨S, 0, none⟩)] w fun e w' => e = .returned (.tuple #[]) ∧ SndAt w' S c (s.fail c) ∧ Kept S w w' := by
  have H := Lib.hid h
  obtain ⟨c0, c1, c2, c3, c4, c5, c6, c7, c8, c9, fr⟩ := h.cells
  clear h
  have r0 := ho.r0
  have r1 := ho.r1
  have F := Lib.hid (show Fine c.base c.cap s.tries from ⟨hc.b0, hc.c0, ho.r0, hc.b1, hc.c1⟩)
  clear hc ho
  go_enter Try.func61, Try.ntmps61
  go_wp2_with fail
  go_region_with (go_at_call 20; refine (next_ok _ _ _ _ _ _ _ F.out).mono ?_; rintro e w1 ⟨rfl, hb⟩)
  all_goals
    have hb1 : Below w.heap.size w w1 := ((Below.refl w.heap.size w).drew).trans hb
    clear hb c0 c1 c2 c3 c4 c5 c6 c7 c8 c9 fr
    have H1 := Lib.hid (H.out.below hb1)
    have K1 := Lib.hid (Kept.of_below (S := S) hb1)
    clear hb1 H
    obtain ⟨c0, c1, c2, c3, c4, c5, c6, c7, c8, c9, fr⟩ := H1.out.cells
    rcases Int.lt_or_le 1099511627776 (s.tries + 1) with ht | ht
    · go_wp2_with (go_at_call 62; refine (rest_walk _ _ _ _ _ (H1.out.setTries _)).mono ?_; rintro e w2 ⟨rfl, hs, hk⟩)
      go_end0
      have e : min (s.tries + 1) 1099511627776 = 1099511627776 := by omega
      exact ⟨rfl, by unfold St.fail; rw [e]; exact hs, K1.out.trans ((Kept.setCell _ _ _ _).trans hk)⟩
    · go_wp2_with (go_at_call 62; refine (rest_walk _ _ _ _ _ (H1.out.setTries _)).mono ?_; rintro e w2 ⟨rfl, hs, hk⟩)
      go_end0
      have e : min (s.tries + 1) 1099511627776 = s.tries + 1 := by omega
      exact ⟨rfl, by unfold St.fail; rw [e]; exact hs, K1.out.trans ((Kept.setCell _ _ _ _).trans hk)⟩

set_option maxHeartbeats 1000000 in
theorem drop_walk (S : Nat) (c : Cf) (s : St) (w : World) (h : SndAt w S c s) (hc : c.Fair) (ho : s.Ok) :
    Calls Try.prog 29 #[.pointer (some ⟨S, 0, none⟩)] w fun e w' => e = .returned (.tuple #[]) ∧ SndAt w' S c (s.drop c) ∧ Kept S w w' := by
  cases hf : s.fly with
  | true =>
    go_enter Try.func29, Try.ntmps29
    go_wp2_with fail
    refine (flying_walk _ _ _ _ h).mono ?_
    rintro e w1 ⟨rfl, rfl⟩
    go_wp2_with (go_at_call 61; refine (fail_walk _ _ _ _ h hc ho).mono ?_; rintro e w2 ⟨rfl, hs, hk⟩)
    go_end0
    exact ⟨rfl, by unfold St.drop; rw [if_pos hf]; exact hs, hk⟩
  | false =>
    go_enter Try.func29, Try.ntmps29
    go_wp2_with fail
    refine (flying_walk _ _ _ _ h).mono ?_
    rintro e w1 ⟨rfl, rfl⟩
    go_wp2_with fail
    go_end0
    exact ⟨rfl, by unfold St.drop; rw [if_neg (by rw [hf]; decide)]; exact h, Kept.refl _ _⟩

set_option maxHeartbeats 1000000 in
theorem answer_walk (S : Nat) (c : Cf) (s : St) (ok : Bool) (w : World) (h : SndAt w S c s) (hc : c.Fair) (ho : s.Ok) :
    Calls Try.prog 33 #[.pointer (some ⟨S, 0, none⟩), .bool ok] w fun e w' => e = .returned (.bool (s.fly && ok)) ∧ SndAt w' S c (s.answer c ok) ∧ Kept S w w' := by
  have H := Lib.hid h
  obtain ⟨c0, c1, c2, c3, c4, c5, c6, c7, c8, c9, fr⟩ := h.cells
  have p0 := ho.p0
  have p1 : s.pos ≤ 1099511627776 := Int.le_trans ho.pk ho.k1
  have HO := Lib.hid ho
  have HC := Lib.hid hc
  clear h ho hc
  cases hf : s.fly with
  | true =>
    cases ok with
    | true =>
      go_enter Try.func33, Try.ntmps33
      go_wp2_with (go_at_call 39; refine (flying_walk _ _ _ _ H.out).mono ?_; rintro e w1 ⟨rfl, rfl⟩)
      go_ret
      refine ⟨rfl, by unfold St.answer; rw [if_pos hf, if_pos rfl]; exact Joins.block_setCell (Joins.block_setCell (Joins.block_setCell (Joins.block_setCell H.out _) _) _) _, ((Kept.setCell _ _ _ _).trans (Kept.setCell _ _ _ _)).trans ((Kept.setCell _ _ _ _).trans (Kept.setCell _ _ _ _))⟩
    | false =>
      go_enter Try.func33, Try.ntmps33
      go_wp2_with (first | (go_at_call 39; refine (flying_walk _ _ _ _ H.out).mono ?_; rintro e w1 ⟨rfl, rfl⟩) | (go_at_call 61; refine (fail_walk _ _ _ _ H.out HC.out HO.out).mono ?_; rintro e w2 ⟨rfl, hs, hk⟩))
      go_ret
      exact ⟨rfl, by unfold St.answer; rw [if_pos hf, if_neg (by decide)]; exact hs, hk⟩
  | false =>
    go_enter Try.func33, Try.ntmps33
    go_wp2_with (go_at_call 39; refine (flying_walk _ _ _ _ H.out).mono ?_; rintro e w1 ⟨rfl, rfl⟩)
    go_ret
    exact ⟨rfl, by unfold St.answer; rw [if_neg (by rw [hf]; decide)]; exact H.out, Kept.refl _ _⟩

set_option maxHeartbeats 1000000 in
theorem offer_walk (S : Nat) (c : Cf) (s : St) (n : Int) (w : World) (h : SndAt w S c s) :
    Calls Try.prog 27 #[.pointer (some ⟨S, 0, none⟩), .int .i64 n] w fun e w' => e = .returned (.int .i64 (s.offerE n)) ∧ SndAt w' S c (s.offer n) ∧ Kept S w w' := by
  have H := Lib.hid h
  obtain ⟨c0, c1, c2, c3, c4, c5, c6, c7, c8, c9, fr⟩ := h.cells
  clear h
  by_cases hn : s.known ≤ n ∧ n ≤ 1099511627776
  · have hb : s.offerOk n = true := by unfold St.offerOk; exact decide_eq_true hn
    obtain ⟨n1, n2⟩ := hn
    go_enter Try.func27, Try.ntmps27
    go_wp2
    go_ret
    exact ⟨by unfold St.offerE; rw [if_pos hb]; rfl, by unfold St.offer; rw [if_pos hb]; exact Joins.block_setCell H.out _, Kept.setCell _ _ _ _⟩
  · have hb : ¬ s.offerOk n = true := by unfold St.offerOk; rw [decide_eq_true_eq]; exact hn
    rcases Int.lt_or_le n s.known with h1 | h1
    · clear hn
      go_enter Try.func27, Try.ntmps27
      go_wp2
      go_ret
      exact ⟨by unfold St.offerE; rw [if_neg hb]; rfl, by unfold St.offer; rw [if_neg hb]; exact H.out, Kept.refl _ _⟩
    · have h2 : 1099511627776 < n := by omega
      clear hn
      go_enter Try.func27, Try.ntmps27
      go_wp2
      go_ret
      exact ⟨by unfold St.offerE; rw [if_neg hb]; rfl, by unfold St.offer; rw [if_neg hb]; exact H.out, Kept.refl _ _⟩
end Go.Proofs.Ytmollbnhndjjeaa
