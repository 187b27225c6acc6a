/- The walks of the reference's sender (layer 16): Poll, Answer, Drop, Tick. -/
import Derived.Test.YtmollbnhndjjeaaSr
namespace Go.Proofs.Ytmollbnhndjjeaa
open Go.RowKit

set_option maxHeartbeats 1000000 in
theorem rpoll_walk (S : Nat) (c : Cf) (s : St) (w : World) (h : RefAt w S c s) (ho : s.Ok) :
    Calls Try.prog 54 #[.pointer (some ⟨S, 0, none⟩)] w fun e w' => e = .returned (.tuple #[.int .i64 s.pollN, .bool s.polls]) ∧ RefAt w' S c (s.poll c) ∧ Kept S w w' := by
  have H := Lib.hid h
  obtain ⟨c0, c1, c2, c3, c4, c5, c6, c7, c8, c9, c10, fr⟩ := h.cells
  have hkl := ho.kl
  clear h ho
  obtain ⟨p, kn, kd, l, r⟩ := s
  simp only at hkl
  rcases hkl with ⟨rfl, hl⟩ | ⟨rfl, hl⟩ | ⟨rfl, hl⟩
  · by_cases hp : p < kn
    · have hb : (St.mk p kn 0 l r).polls = true := by unfold St.polls; simp [hp]
      have hpb : decide (kn ≤ p) = false := by simp; omega
      have HB := Lib.hid hb
      have HL := Lib.hid hl
      clear hb hl
      simp only at c5 c6 c7 c8
      have k1 : ((0 : Int) == 1) = false := rfl
      have k2 : ((0 : Int) == 2) = false := rfl
      rw [k1] at c7
      rw [k2] at c8
      go_enter Try.func54, Try.ntmps54
      go_wp2_with fail
      go_quiet (fail)
      go_wp2
      go_ret2
      exact ⟨by unfold St.pollN; rw [HB.out]; rfl, by unfold St.poll; rw [if_pos HB.out]; exact Joins.block_setCell (w := (World.drewN w nq).setCell ⟨S, 7, none⟩ (.bool true)) (Joins.block_setCell (w := World.drewN w nq) H.out _) _, (Kept.drewN S w nq).trans ((Kept.setCell _ _ _ _).trans (Kept.setCell _ _ _ _))⟩
    · have hb : (St.mk p kn 0 l r).polls = false := by unfold St.polls; simp [hp]
      have hpb : decide (kn ≤ p) = true := by simp; omega
      have HB := Lib.hid hb
      have HL := Lib.hid hl
      clear hb hl
      have k1 : ((0 : Int) == 1) = false := rfl
      have k2 : ((0 : Int) == 2) = false := rfl
      simp only at c5 c6 c7 c8
      rw [k1] at c7
      rw [k2] at c8
      go_enter Try.func54, Try.ntmps54
      go_wp2_with fail
      go_quiet (fail)
      go_wp2
      go_ret2
      exact ⟨by unfold St.pollN; rw [HB.out]; rfl, by unfold St.poll; rw [HB.out]; exact H.out, Kept.drewN _ _ _⟩
  · have hb : (St.mk p kn 1 l r).polls = false := rfl
    have HB := Lib.hid hb
    have k1 : ((1 : Int) == 1) = true := rfl
    have k2 : ((1 : Int) == 2) = false := rfl
    simp only at c5 c6 c7 c8
    rw [k1] at c7
    rw [k2] at c8
    clear hb
    go_enter Try.func54, Try.ntmps54
    go_wp2_with fail
    go_quiet (fail)
    go_wp2
    go_ret2
    exact ⟨by unfold St.pollN; rw [HB.out]; rfl, by unfold St.poll; rw [HB.out]; exact H.out, Kept.drewN _ _ _⟩
  · have hb : (St.mk p kn 2 l r).polls = false := rfl
    have HB := Lib.hid hb
    have k1 : ((2 : Int) == 1) = false := rfl
    have k2 : ((2 : Int) == 2) = true := rfl
    simp only at c5 c6 c7 c8
    rw [k1] at c7
    rw [k2] at c8
    clear hb
    go_enter Try.func54, Try.ntmps54
    go_wp2_with fail
    go_quiet (fail)
    go_wp2
    go_ret2
    exact ⟨by unfold St.pollN; rw [HB.out]; rfl, by unfold St.poll; rw [HB.out]; exact H.out, Kept.drewN _ _ _⟩

set_option maxHeartbeats 1000000 in
theorem ranswer_walk (S : Nat) (c : Cf) (s : St) (ok : Bool) (w : World) (h : RefAt w S c s) (hc : c.Fair) (ho : s.Ok) :
    Calls Try.prog 55 #[.pointer (some ⟨S, 0, none⟩), .bool ok] w fun e w' => e = .returned (.bool (s.fly && ok)) ∧ RefAt w' S c (s.answer c ok) ∧ Kept S w w' := by
  have H := Lib.hid h
  obtain ⟨c0, c1, c2, c3, c4, c5, c6, c7, c8, c9, c10, fr⟩ := h.cells
  have p0 := ho.p0
  have p1 : s.pos ≤ 1099511627776 := Int.le_trans ho.pk ho.k1
  have hkl := ho.kl
  have HF := Lib.hid (rfail_walk S c s w h hc ho)
  clear h ho hc
  by_cases hk : s.kind = 1
  · have hf : s.fly = true := St.fly_iff.2 hk
    have k1 : (s.kind == 1) = true := by rw [hk]; rfl
    have k2 : (s.kind == 2) = false := by rw [hk]; rfl
    rw [k1] at c7
    rw [k2] at c8
    have HK := Lib.hid hk
    have FL := Lib.hid hf
    clear hk hkl k1 k2 hf
    cases ok with
    | true =>
      go_enter Try.func55, Try.ntmps55
      go_wp2_with fail
      go_ret
      refine ⟨by rw [FL.out]; rfl, ?_, ((Kept.setCell _ _ _ _).trans (Kept.setCell _ _ _ _)).trans ((Kept.setCell _ _ _ _).trans (Kept.setCell _ _ _ _))⟩
      unfold St.answer
      rw [if_pos FL.out, if_pos rfl]
      have hh : RefAt w S c ⟨s.pos, s.known, 1, s.left, s.tries⟩ := by have := H.out; unfold RefAt at *; rw [HK.out] at this; exact this
      exact Joins.block_setCell (Joins.block_setCell (Joins.block_setCell (Joins.block_setCell hh _) _) _) _
    | false =>
      go_enter Try.func55, Try.ntmps55
      go_wp2_with fail
      refine HF.out.mono ?_
      rintro e w2 ⟨rfl, hs, hk⟩
      go_wp2_with fail
      go_ret
      exact ⟨by rw [FL.out]; rfl, by unfold St.answer; rw [if_pos FL.out, if_neg (by decide)]; exact hs, hk⟩
  · have hf : s.fly = false := by cases h : s.fly with
      | false => rfl
      | true => exact absurd (St.fly_iff.1 h) hk
    have k1 : (s.kind == 1) = false := by simp [hk]
    rw [k1] at c7
    have FL := Lib.hid hf
    clear hk hkl k1 hf HF
    go_enter Try.func55, Try.ntmps55
    go_wp2_with fail
    go_ret
    exact ⟨by rw [FL.out]; rfl, by unfold St.answer; rw [if_neg (by rw [FL.out]; decide)]; exact H.out, Kept.refl _ _⟩

set_option maxHeartbeats 1000000 in
theorem rdrop_walk (S : Nat) (c : Cf) (s : St) (w : World) (h : RefAt w S c s) (hc : c.Fair) (ho : s.Ok) :
    Calls Try.prog 57 #[.pointer (some ⟨S, 0, none⟩)] w fun e w' => e = .returned (.tuple #[]) ∧ RefAt w' S c (s.drop c) ∧ Kept S w w' := by
  have H := Lib.hid h
  obtain ⟨c0, c1, c2, c3, c4, c5, c6, c7, c8, c9, c10, fr⟩ := h.cells
  have HF := Lib.hid (rfail_walk S c s w h hc ho)
  clear h ho hc
  by_cases hk : s.kind = 1
  · have hf : s.fly = true := St.fly_iff.2 hk
    have k1 : (s.kind == 1) = true := by rw [hk]; rfl
    rw [k1] at c7
    have FL := Lib.hid hf
    clear hk k1 hf
    go_enter Try.func57, Try.ntmps57
    go_wp2_with fail
    refine HF.out.mono ?_
    rintro e w2 ⟨rfl, hs, hk⟩
    go_wp2_with fail
    go_end0
    exact ⟨rfl, by unfold St.drop; rw [if_pos FL.out]; exact hs, hk⟩
  · have hf : s.fly = false := by cases h : s.fly with
      | false => rfl
      | true => exact absurd (St.fly_iff.1 h) hk
    have k1 : (s.kind == 1) = false := by simp [hk]
    rw [k1] at c7
    have FL := Lib.hid hf
    clear hk k1 hf HF
    go_enter Try.func57, Try.ntmps57
    go_wp2_with fail
    go_end0
    exact ⟨rfl, by unfold St.drop; rw [if_neg (by rw [FL.out]; decide)]; exact H.out, Kept.refl _ _⟩

set_option maxHeartbeats 2000000 in
theorem rtick_walk (S : Nat) (c : Cf) (s : St) (n : Int) (w : World) (hn : n ≤ 9223372036854775807) (h : RefAt w S c s) (hc : c.Fair) (ho : s.Ok) :
    Calls Try.prog 56 #[.pointer (some ⟨S, 0, none⟩), .int .i64 n] w fun e w' => e = .returned (.int .i64 (tickE n)) ∧ RefAt w' S c (s.tick c n) ∧ Kept S w w' := by
  have H := Lib.hid h
  obtain ⟨c0, c1, c2, c3, c4, c5, c6, c7, c8, c9, c10, fr⟩ := h.cells
  have hkl := ho.kl
  have hl1 := ho.l1
  have HO := Lib.hid ho
  have HC := Lib.hid hc
  have HF := Lib.hid (rfail_walk S c s w h hc ho)
  clear h ho hc
  rcases Int.lt_or_le n 0 with hneg | hpos
  · have e : s.tick c n = s := by unfold St.tick; rw [if_pos hneg]
    have e2 : tickE n = 3 := by unfold tickE; rw [if_pos hneg]
    have E := Lib.hid e
    have E2 := Lib.hid e2
    clear e e2
    go_enter Try.func56, Try.ntmps56
    go_wp2_with fail
    go_ret
    exact ⟨by rw [E2.out]; rfl, by rw [E.out]; exact H.out, Kept.refl _ _⟩
  · have e2 : tickE n = 0 := by unfold tickE; rw [if_neg (by omega)]
    have E2 := Lib.hid e2
    clear e2
    rcases hkl with ⟨hk, hl⟩ | ⟨hk, hl⟩ | ⟨hk, hl⟩
    · have e : s.tick c n = s := by unfold St.tick; rw [if_neg (by omega), if_neg (by omega)]; unfold St.lapse; rw [if_neg (by omega)]
      have E := Lib.hid e
      have k1 : (s.kind == 1) = false := by rw [hk]; rfl
      have k2 : (s.kind == 2) = false := by rw [hk]; rfl
      rw [k1] at c7
      rw [k2] at c8
      clear e hk hl k1 k2
      go_enter Try.func56, Try.ntmps56
      go_wp2_with fail
      go_ret
      exact ⟨by rw [E2.out]; rfl, by rw [E.out]; exact H.out, Kept.refl _ _⟩
    · have k1 : (s.kind == 1) = true := by rw [hk]; rfl
      have k2 : (s.kind == 2) = false := by rw [hk]; rfl
      rw [k1] at c7
      rw [k2] at c8
      rcases Int.lt_or_le n s.left with hlt | hge
      · have e : s.tick c n = { s with left := s.left - n } := by unfold St.tick; rw [if_neg (by omega), if_pos hk, if_pos hlt]
        have E := Lib.hid e
        clear e hk k1 k2
        go_enter Try.func56, Try.ntmps56
        go_wp2_with fail
        go_ret
        exact ⟨by rw [E2.out]; rfl, by rw [E.out]; exact Joins.block_setCell H.out _, Kept.setCell _ _ _ _⟩
      · have e : s.tick c n = (s.fail c).lapse (n - s.left) := by unfold St.tick; rw [if_neg (by omega), if_pos hk, if_neg (by omega)]
        have E := Lib.hid e
        have hff := St.fail_fly c s
        have hO2 := HO.out.fail HC.out
        have fl1 := hO2.l1
        have fkl := hO2.kl
        obtain ⟨s2, hs2⟩ : ∃ s2, s.fail c = s2 := ⟨_, rfl⟩
        rw [hs2] at hff fl1 fkl
        have S2 := Lib.hid hs2
        clear e hk hs2 hO2 k1 k2
        go_enter Try.func56, Try.ntmps56
        go_wp2_with fail
        refine HF.out.mono ?_
        rintro e w2 ⟨rfl, hs, hk⟩
        rw [S2.out] at hs
        have HS := Lib.hid hs
        have HK := Lib.hid hk
        clear c0 c1 c2 c3 c4 c5 c6 c7 c8 c9 c10 fr hk
        obtain ⟨c0, c1, c2, c3, c4, c5, c6, c7, c8, c9, c10, fr⟩ := hs.cells
        clear hs
        rcases hff with hk | hk
        · have k1 : (s2.kind == 1) = false := by rw [hk]; rfl
          have k2 : (s2.kind == 2) = false := by rw [hk]; rfl
          rw [k1] at c7
          rw [k2] at c8
          have e : s2.lapse (n - s.left) = s2 := by unfold St.lapse; rw [if_neg (by omega)]
          have E3 := Lib.hid e
          clear hk e fkl k1 k2
          go_wp2_with fail
          go_ret
          exact ⟨by rw [E2.out]; rfl, by rw [E.out, S2.out, E3.out]; exact HS.out, HK.out⟩
        · have k1 : (s2.kind == 1) = false := by rw [hk]; rfl
          have k2 : (s2.kind == 2) = true := by rw [hk]; rfl
          rw [k1] at c7
          rw [k2] at c8
          have hl2 : 1 ≤ s2.left := by omega
          have e : s2.lapse (n - s.left) = s2.rest (max 0 (s2.left - (n - s.left))) := by unfold St.lapse; rw [if_pos hk]
          have E3 := Lib.hid e
          have hh : RefAt w2 S c ⟨s2.pos, s2.known, 2, s2.left, s2.tries⟩ := by have := HS.out; unfold RefAt at *; rw [hk] at this; exact this
          have HH := Lib.hid hh
          clear hk e fkl k1 k2 hh
          rcases Int.lt_or_le (n - s.left) s2.left with hm | hm
          · have em : max 0 (s2.left - (n - s.left)) = s2.left - (n - s.left) := by omega
            have en : ¬ s2.left - (n - s.left) = 0 := by omega
            have EM := Lib.hid em
            have EN := Lib.hid en
            clear em en
            go_wp2_with fail
            go_ret
            exact ⟨by rw [E2.out]; rfl, by rw [E.out, S2.out, E3.out, EM.out, St.rest_pos _ EN.out]; exact Joins.block_setCell HH.out _, HK.out.trans (Kept.setCell _ _ _ _)⟩
          · have em : max 0 (s2.left - (n - s.left)) = 0 := by omega
            have EM := Lib.hid em
            clear em
            go_wp2_with fail
            go_ret
            exact ⟨by rw [E2.out]; rfl, by rw [E.out, S2.out, E3.out, EM.out, St.rest_zero]; exact Joins.block_setCell (Joins.block_setCell HH.out _) _, HK.out.trans ((Kept.setCell _ _ _ _).trans (Kept.setCell _ _ _ _))⟩
    · have k1 : (s.kind == 1) = false := by rw [hk]; rfl
      have k2 : (s.kind == 2) = true := by rw [hk]; rfl
      rw [k1] at c7
      rw [k2] at c8
      have e : s.tick c n = s.rest (max 0 (s.left - n)) := by unfold St.tick; rw [if_neg (by omega), if_neg (by omega)]; unfold St.lapse; rw [if_pos hk]
      have E3 := Lib.hid e
      have hh : RefAt w S c ⟨s.pos, s.known, 2, s.left, s.tries⟩ := by have := H.out; unfold RefAt at *; rw [hk] at this; exact this
      have HH := Lib.hid hh
      clear hk e k1 k2 hh
      rcases Int.lt_or_le n s.left with hm | hm
      · have em : max 0 (s.left - n) = s.left - n := by omega
        have en : ¬ s.left - n = 0 := by omega
        have EM := Lib.hid em
        have EN := Lib.hid en
        clear em en
        go_enter Try.func56, Try.ntmps56
        go_wp2_with fail
        go_ret
        exact ⟨by rw [E2.out]; rfl, by rw [E3.out, EM.out, St.rest_pos _ EN.out]; exact Joins.block_setCell HH.out _, Kept.setCell _ _ _ _⟩
      · have em : max 0 (s.left - n) = 0 := by omega
        have EM := Lib.hid em
        clear em
        go_enter Try.func56, Try.ntmps56
        go_wp2_with fail
        go_ret
        exact ⟨by rw [E2.out]; rfl, by rw [E3.out, EM.out, St.rest_zero]; exact Joins.block_setCell (Joins.block_setCell HH.out _) _, (Kept.setCell _ _ _ _).trans (Kept.setCell _ _ _ _)⟩
end Go.Proofs.Ytmollbnhndjjeaa
