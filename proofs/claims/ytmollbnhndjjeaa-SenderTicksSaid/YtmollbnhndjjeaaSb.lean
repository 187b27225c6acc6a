/- The walks of Poll and Tick. -/
import Derived.Test.YtmollbnhndjjeaaSa
import Derived.Deep.QuietTactic
import Derived.BigQuiet
namespace Go.Proofs.Ytmollbnhndjjeaa
open Go.RowKit

theorem Kept.drewN (S : Nat) (w : World) (n : Nat) : Kept S w (w.drewN n) := ⟨rfl, rfl, rfl, Nat.le_refl _, fun _ _ _ => rfl⟩
theorem eq87 (a b c d : Int) (w : World) : (Op.equalIn 10000 87 (.agg #[.int .i64 a, .int .i64 b]) (.agg #[.int .i64 c, .int .i64 d])).run Try.prog w = .ok (a == c && b == d) w := by
  have u3 := Try.underlying3
  have a3 := Try.isAgg3
  have z3 := Try.sizeOf3
  have hS : Try.prog.underlying 87 = some (.struct (Try.prog.fieldsOf 87)) := by kernel_rfl
  rw [show (10000 : Nat) = 9999 + 1 from rfl, run_equalIn_agg w 9999 87 _ _ hS (by kernel_rfl)]
  simp only [Program.fieldsOf, Try.underlying87]
  go_simp
  by_cases h1 : a = c <;> by_cases h2 : b = d <;> simp [h1, h2]
theorem ne87 (a b : Int) (w : World) : (binOp .neq 87 (.agg #[.int .i64 a, .int .i64 b]) (.agg #[.int .i64 0, .int .i64 0])).run Try.prog w = .ok (.bool (!(a == 0 && b == 0))) w := by
  have e : Op.maxDepth = 10000 := rfl
  simp [binOp, Op.equal, e, eq87]

set_option maxHeartbeats 1000000 in
theorem poll_walk (S : Nat) (c : Cf) (s : St) (w : World) (h : SndAt w S c s) (ho : s.Ok) :
    Calls Try.prog 28 #[.pointer (some ⟨S, 0, none⟩)] w fun e w' => e = .returned (.tuple #[.int .i64 s.pollN, .bool s.polls]) ∧ SndAt w' S c (s.poll c) ∧ Kept S w w' := by
  have H := Lib.hid h
  obtain ⟨c0, c1, c2, c3, c4, c5, c6, c7, c8, c9, fr⟩ := h.cells
  have hkl := ho.kl
  clear h ho
  have hne := ne87 s.kind s.left
  by_cases hk : s.kind = 0
  · have hl : s.left = 0 := by omega
    by_cases hp : s.pos < s.known
    · have hb : s.polls = true := by unfold St.polls; rw [hk]; simp [hp]
      have hcmp : (!(s.kind == 0 && s.left == 0)) = false := by rw [hk, hl]; rfl
      rw [hcmp] at hne
      have hpb : decide (s.known ≤ s.pos) = false := by simp; omega
      clear hkl hk hl hcmp
      go_enter Try.func28, Try.ntmps28
      go_wp2_with fail
      go_quiet (fail)
      go_wp2
      go_ret2
      exact ⟨by unfold St.pollN; rw [hb]; rfl, by unfold St.poll; rw [if_pos hb]; exact Joins.block_setCell (w := (World.drewN w nq).setCell ⟨S, 7, none⟩ (.int .i64 1)) (Joins.block_setCell (w := World.drewN w nq) H.out _) _, (Kept.drewN S w nq).trans ((Kept.setCell _ _ _ _).trans (Kept.setCell _ _ _ _))⟩
    · have hb : s.polls = false := by unfold St.polls; simp [hp]
      have hcmp : (!(s.kind == 0 && s.left == 0)) = false := by rw [hk, hl]; rfl
      rw [hcmp] at hne
      have hpb : decide (s.known ≤ s.pos) = true := by simp; omega
      clear hkl hk hl hcmp
      go_enter Try.func28, Try.ntmps28
      go_wp2_with fail
      go_quiet (fail)
      go_wp2
      go_ret2
      exact ⟨by unfold St.pollN; rw [hb]; rfl, by unfold St.poll; rw [hb]; exact H.out, Kept.drewN _ _ _⟩
  · have hb : s.polls = false := by unfold St.polls; simp [hk]
    have hcmp : (!(s.kind == 0 && s.left == 0)) = true := by simp [hk]
    rw [hcmp] at hne
    clear hkl hk hcmp
    go_enter Try.func28, Try.ntmps28
    go_wp2_with fail
    go_quiet (fail)
    go_wp2
    go_ret2
    exact ⟨by unfold St.pollN; rw [hb]; rfl, by unfold St.poll; rw [hb]; exact H.out, Kept.drewN _ _ _⟩

theorem St.fail_fly (c : Cf) (s : St) : (s.fail c).kind = 0 ∨ (s.fail c).kind = 2 := by
  unfold St.fail St.rest
  show (if _ then (0 : Int) else 2) = 0 ∨ (if _ then (0 : Int) else 2) = 2
  split
  · exact .inl rfl
  · exact .inr rfl

set_option maxHeartbeats 1000000 in
theorem tick_walk (S : Nat) (c : Cf) (s : St) (n : Int) (w : World) (hn : n ≤ 9223372036854775807) (h : SndAt w S c s) (hc : c.Fair) (ho : s.Ok) :
    Calls Try.prog 32 #[.pointer (some ⟨S, 0, none⟩), .int .i64 n] w fun e w' => e = .returned (.int .i64 (tickE n)) ∧ SndAt w' S c (s.tick c n) ∧ Kept S w w' := by
  have H := Lib.hid h
  obtain ⟨c0, c1, c2, c3, c4, c5, c6, c7, c8, c9, fr⟩ := h.cells
  have hkl := ho.kl
  have hl1 := ho.l1
  have HO := Lib.hid ho
  have HC := Lib.hid hc
  have hfl := fail_walk S c s w h hc ho
  have HF := Lib.hid hfl
  clear h ho hc hfl
  rcases Int.lt_or_le n 0 with hneg | hpos
  · have e : s.tick c n = s := by unfold St.tick; rw [if_pos hneg]
    have e2 : tickE n = 3 := by unfold tickE; rw [if_pos hneg]
    have E := Lib.hid e
    have E2 := Lib.hid e2
    clear e e2
    go_enter Try.func32, Try.ntmps32
    go_wp2_with fail
    go_ret
    exact ⟨by rw [E2.out]; rfl, by rw [E.out]; exact H.out, Kept.refl _ _⟩
  · have e2 : tickE n = 0 := by unfold tickE; rw [if_neg (by omega)]
    have E2 := Lib.hid e2
    clear e2
    rcases hkl with ⟨hk, hl⟩ | ⟨hk, hl⟩ | ⟨hk, hl⟩
    · have e : s.tick c n = s := by unfold St.tick; rw [if_neg (by omega), if_neg (by omega)]; unfold St.lapse; rw [if_neg (by omega)]
      have E := Lib.hid e
      have k1 : (s.kind == 1) = false := by rw [hk]; rfl
      have k2 : (s.kind == 2) = false := by rw [hk]; rfl
      clear e hk hl
      go_enter Try.func32, Try.ntmps32
      go_wp2_with fail
      go_ret
      exact ⟨by rw [E2.out]; rfl, by rw [E.out]; exact H.out, Kept.refl _ _⟩
    · rcases Int.lt_or_le n s.left with hlt | hge
      · have e : s.tick c n = { s with left := s.left - n } := by unfold St.tick; rw [if_neg (by omega), if_pos hk, if_pos hlt]
        have E := Lib.hid e
        have k1 : (s.kind == 1) = true := by rw [hk]; rfl
        have k2 : (s.kind == 2) = false := by rw [hk]; rfl
        clear e hk
        go_enter Try.func32, Try.ntmps32
        go_wp2_with fail
        go_ret
        exact ⟨by rw [E2.out]; rfl, by rw [E.out]; exact Joins.block_setCell H.out _, Kept.setCell _ _ _ _⟩
      · have e : s.tick c n = (s.fail c).lapse (n - s.left) := by unfold St.tick; rw [if_neg (by omega), if_pos hk, if_neg (by omega)]
        have E := Lib.hid e
        have k1 : (s.kind == 1) = true := by rw [hk]; rfl
        have hff := St.fail_fly c s
        have hO2 := HO.out.fail HC.out
        have fl1 := hO2.l1
        have fkl := hO2.kl
        obtain ⟨s2, hs2⟩ : ∃ s2, s.fail c = s2 := ⟨_, rfl⟩
        rw [hs2] at hff fl1 fkl
        have S2 := Lib.hid hs2
        clear e hk hs2 hO2
        go_enter Try.func32, Try.ntmps32
        go_wp2_with fail
        refine HF.out.mono ?_
        rintro e w2 ⟨rfl, hs, hk⟩
        rw [S2.out] at hs
        have HS := Lib.hid hs
        have HK := Lib.hid hk
        clear c0 c1 c2 c3 c4 c5 c6 c7 c8 c9 fr k1 hk
        obtain ⟨c0, c1, c2, c3, c4, c5, c6, c7, c8, c9, fr⟩ := hs.cells
        clear hs
        rcases hff with hk | hk
        · have k1 : (s2.kind == 1) = false := by rw [hk]; rfl
          have k2 : (s2.kind == 2) = false := by rw [hk]; rfl
          have e : s2.lapse (n - s.left) = s2 := by unfold St.lapse; rw [if_neg (by omega)]
          have E3 := Lib.hid e
          clear hk e fkl
          go_wp2_with fail
          go_ret
          exact ⟨by rw [E2.out]; rfl, by rw [E.out, S2.out, E3.out]; exact HS.out, HK.out⟩
        · have k1 : (s2.kind == 1) = false := by rw [hk]; rfl
          have k2 : (s2.kind == 2) = true := by rw [hk]; rfl
          have hl2 : 1 ≤ s2.left := by omega
          have e : s2.lapse (n - s.left) = s2.rest (max 0 (s2.left - (n - s.left))) := by unfold St.lapse; rw [if_pos hk]
          have E3 := Lib.hid e
          clear hk e fkl
          rcases Int.lt_or_le 0 (s2.left - (n - s.left)) with hm | hm
          · have em : max 0 (s2.left - (n - s.left)) = s2.left - (n - s.left) := by omega
            have EM := Lib.hid em
            clear em
            go_wp2_with (go_at_call 62; refine (rest_walk _ _ _ _ _ HS.out).mono ?_; rintro e w3 ⟨rfl, hs3, hk3⟩)
            go_ret
            exact ⟨by rw [E2.out]; rfl, by rw [E.out, S2.out, E3.out, EM.out]; exact hs3, HK.out.trans hk3⟩
          · have em : max 0 (s2.left - (n - s.left)) = 0 := by omega
            have EM := Lib.hid em
            clear em
            go_wp2_with (go_at_call 62; refine (rest_walk _ _ _ _ _ HS.out).mono ?_; rintro e w3 ⟨rfl, hs3, hk3⟩)
            go_ret
            exact ⟨by rw [E2.out]; rfl, by rw [E.out, S2.out, E3.out, EM.out]; exact hs3, HK.out.trans hk3⟩
    · have k1 : (s.kind == 1) = false := by rw [hk]; rfl
      have k2 : (s.kind == 2) = true := by rw [hk]; rfl
      have e : s.tick c n = s.rest (max 0 (s.left - n)) := by unfold St.tick; rw [if_neg (by omega), if_neg (by omega)]; unfold St.lapse; rw [if_pos hk]
      have E3 := Lib.hid e
      clear hk e
      rcases Int.lt_or_le 0 (s.left - n) with hm | hm
      · have em : max 0 (s.left - n) = s.left - n := by omega
        have EM := Lib.hid em
        clear em
        go_enter Try.func32, Try.ntmps32
        go_wp2_with (go_at_call 62; refine (rest_walk _ _ _ _ _ H.out).mono ?_; rintro e w3 ⟨rfl, hs3, hk3⟩)
        go_ret
        exact ⟨by rw [E2.out]; rfl, by rw [E3.out, EM.out]; exact hs3, hk3⟩
      · have em : max 0 (s.left - n) = 0 := by omega
        have EM := Lib.hid em
        clear em
        go_enter Try.func32, Try.ntmps32
        go_wp2_with (go_at_call 62; refine (rest_walk _ _ _ _ _ H.out).mono ?_; rintro e w3 ⟨rfl, hs3, hk3⟩)
        go_ret
        exact ⟨by rw [E2.out]; rfl, by rw [E3.out, EM.out]; exact hs3, hk3⟩
end Go.Proofs.Ytmollbnhndjjeaa
