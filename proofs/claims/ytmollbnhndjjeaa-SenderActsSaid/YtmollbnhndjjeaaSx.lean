/- SenderActs: the walk. -/
import Derived.Test.YtmollbnhndjjeaaFa
import Derived.Test.YtmollbnhndjjeaaSq
import Derived.Deep.QuietTactic
import Derived.BigQuiet
namespace Go.Proofs.Ytmollbnhndjjeaa
open Go.RowKit

theorem at_same (S : Nat) (c : Cf) (s : St) (w : World) (h : SndAt w S c s) :
    Calls Try.prog 34 #[.pointer (some ⟨S, 0, none⟩)] w fun e w' => e = .returned (.int .i64 s.pos) ∧ w' = w := (at_walk S c s w h).mono fun _ _ h => ⟨h.1, h.2.symm⟩
theorem left_same (S : Nat) (c : Cf) (s : St) (w : World) (h : SndAt w S c s) :
    Calls Try.prog 30 #[.pointer (some ⟨S, 0, none⟩)] w fun e w' => e = .returned (.int .i64 s.left) ∧ w' = w := (left_walk S c s w h).mono fun _ _ h => ⟨h.1, h.2.symm⟩
theorem tries_same (S : Nat) (c : Cf) (s : St) (w : World) (h : SndAt w S c s) :
    Calls Try.prog 31 #[.pointer (some ⟨S, 0, none⟩)] w fun e w' => e = .returned (.int .i64 s.tries) ∧ w' = w := (tries_walk S c s w h).mono fun _ _ h => ⟨h.1, h.2.symm⟩
theorem flying_same (S : Nat) (c : Cf) (s : St) (w : World) (h : SndAt w S c s) :
    Calls Try.prog 39 #[.pointer (some ⟨S, 0, none⟩)] w fun e w' => e = .returned (.bool s.fly) ∧ w' = w := (flying_walk S c s w h).mono fun _ _ h => ⟨h.1, h.2.symm⟩

set_option maxRecDepth 100000 in
set_option maxHeartbeats 16000000 in
theorem acts_walk (a0 a1 a2 bits : Int) (ha : Option Addr) (len cap : Nat) (zs : List (Int × Int)) (w : World) (_ : -9223372036854775808 ≤ a0) (_ : a0 ≤ 9223372036854775807) (_ : -9223372036854775808 ≤ a1) (_ : a1 ≤ 9223372036854775807) (_ : -9223372036854775808 ≤ a2) (_ : a2 ≤ 9223372036854775807) (_ : 0 ≤ bits) (_ : bits ≤ 18446744073709551615) (hi : Fr.IsActs w ha len cap zs) :
    Calls Try.prog 17 #[.agg #[.int .i64 a0, .int .i64 a1, .int .i64 a2], .int .u64 bits, .slice ha len cap] w fun e w' => e = .returned (.bool true) ∧ Below w.heap.size w w' := by
  obtain ⟨hz, hlc, hcm, hwf, hcell⟩ := hi
  have hlm : len ≤ 9223372036854775807 := by unfold maxLen at hcm; omega
  have HZ := Lib.hid hz
  have HW := Lib.hid hwf
  have HX := Lib.hid hcell
  clear hz hcell hwf hlc hcm
  have fair := Lib.hid (cf3_fair a0 a1 a2 bits)
  go_enter Try.func17, Try.ntmps17
  go_wp2_with fail
  refine (config_any _ _ _ _ _).mono ?_
  rintro e w1 ⟨rfl, hb⟩
  have B1 : Below w.heap.size w w1 := ((Below.refl _ _).alloc (Nat.le_refl _) _).trans (hb.mono (by simp))
  clear hb
  go_wp2_with fail
  have B2 : Below w.heap.size w (w1.alloc (.cells #[.int .i64 0, .int .i64 (kk a0), .int .i64 (kk a1), .int .i64 (1 + kk a2), .float .f64 bits.toNat] 28)) := B1.alloc B1.size _
  have C0 := CfgAt.new w1 0 (kk a0) (kk a1) (1 + kk a2) bits.toNat
  revert B2 C0
  generalize (w1.alloc (.cells #[.int .i64 0, .int .i64 (kk a0), .int .i64 (kk a1), .int .i64 (1 + kk a2), .float .f64 bits.toNat] 28)) = w2
  intro B2 C0
  refine (new_ok (cf3 a0 a1 a2 bits) 0 _ fair.out (by omega) (by omega)).mono ?_
  rintro e w3 ⟨S, rfl, h0, B0, hS⟩
  have H0 : Hid (SndAt w3 S (cf3 a0 a1 a2 bits) ⟨0, 0, 0, 0, 0⟩) := Lib.hid h0
  have B3 := below_call B2 B2.size B0
  have C3 := Lib.hid (C0.below B0)
  have hws : w.heap.size ≤ S := by have := B2.size; omega
  clear h0 B0 hS B1 B2 C0
  obtain ⟨-, c0, c1, c2, c3, c4⟩ := C3.out
  go_wp2_with fail
  refine (rnew_ok (cf3 a0 a1 a2 bits) 0 _ fair.out (by omega) (by omega)).mono ?_
  rintro e w4 ⟨R, rfl, h0, B0, hR⟩
  have R0 : Hid (RefAt w4 R (cf3 a0 a1 a2 bits) ⟨0, 0, 0, 0, 0⟩) := Lib.hid h0
  have hRS : R ≠ S := by have := H0.out.lt; omega
  have H1 := Lib.hid (H0.out.below B0)
  have B4 := below_call B3 B3.size B0
  have hwr : w.heap.size ≤ R := by have := B3.size; omega
  clear c0 c1 c2 c3 c4 h0 B0 hR B3 H0 C3
  go_wp2_with fail
  refine (alive16 _).mono ?_
  rintro e w5 ⟨rfl, hb⟩
  have H4 := Lib.hid (H1.out.below hb)
  have R4 := Lib.hid (R0.out.below hb)
  have B5 := below_call B4 B4.size hb
  clear hb H1 R0 B4
  by_cases hl : 300 < len
  · go_wp2_with fail
    refine (alive16 _).mono ?_
    rintro e w6 ⟨rfl, hb⟩
    have B6 := below_call B5 B5.size hb
    clear hb
    go_wp2_with fail
    go_ret
    exact ⟨rfl, B6⟩
  · go_wp2_with fail
    go_loopw [64] (fun i wr => ∃ (n : Nat) (s : St), n ≤ len ∧ i = .int .i64 n ∧ Below w.heap.size w wr ∧ SndAt wr S (cf3 a0 a1 a2 bits) s ∧ RefAt wr R (cf3 a0 a1 a2 bits) s ∧ s.Good) (fun i _ => 301 - (intOf i).toNat)
    case atStart => exact ⟨0, ⟨0, 0, 0, 0, 0⟩, by omega, rfl, B5, H4.out, R4.out, St.Good.start⟩
    case round =>
      obtain ⟨n, s, hn, rfl, hbr, hsr, hrr, hg⟩ := hrel
      clear H4 R4 B5
      have HS := Lib.hid hsr
      have HR := Lib.hid hrr
      have G := Lib.hid hg
      clear hsr hrr hg
      by_cases hnL : n < len
      · obtain ⟨b, o, rfl, hbw, hx⟩ := HX.out (by omega)
        obtain ⟨hx0, hx1⟩ := hx n hnL
        obtain ⟨⟨x, y⟩, hxx⟩ : ∃ x, zs.getD n (0, 0) = x := ⟨_, rfl⟩
        rw [hxx] at hx0 hx1
        have hc0 : wr.cell? ⟨b, o + n * 2, none⟩ = some (.int .i64 x) := by rw [hbr.cell (p := ⟨b, o + n * 2, none⟩) hbw]; exact hx0
        have hc1 : wr.cell? ⟨b, o + n * 2 + 1, none⟩ = some (.int .i64 y) := by rw [hbr.cell (p := ⟨b, o + n * 2 + 1, none⟩) hbw]; exact hx1
        have xy := HW.out (x, y) (by
          rw [← hxx, List.getD_eq_getElem?_getD, List.getElem?_eq_getElem (by rw [HZ.out]; exact hnL)]
          exact List.getElem_mem _)
        obtain ⟨xlo, xhi⟩ := bounds_i64 xy.1
        obtain ⟨ylo, yhi⟩ := bounds_i64 xy.2
        clear hx hx0 hx1 hxx xy
        have hwsz := hbr.size
        have SA := Lib.hid (HS.out.below ((Below.refl _ wr).alloc (Nat.le_refl _) (.cells #[.int .i64 x, .int .i64 y] 78)))
        have RA := Lib.hid (HR.out.below ((Below.refl _ wr).alloc (Nat.le_refl _) (.cells #[.int .i64 x, .int .i64 y] 78)))
        have BA : Below w.heap.size w (wr.alloc (.cells #[.int .i64 x, .int .i64 y] 78)) := hbr.alloc hbr.size _
        have hAS : wr.heap.size ≠ S := by have := HS.out.lt; omega
        have hAR : wr.heap.size ≠ R := by have := HR.out.lt; omega
        have hAz : wr.heap.size < (wr.alloc (.cells #[.int .i64 x, .int .i64 y] 78)).heap.size := by simp
        clear HS HR hbr hwsz
        by_cases x0 : x = 0
        · subst x0
          go_wp2_with fail
          go_region_with (first | (go_at_call 27; refine (offer_walk _ _ _ _ _ (by exact SA.out)).mono ?_; rintro e v1 ⟨rfl, h1, k2⟩; have ca : v1.cell? ⟨wr.heap.size, 1, none⟩ = some (.int .i64 y) := by { rw [k2.cell hAz hAS]; exact World.cell?_alloc_new _ _ _ _ }; have RB := Lib.hid (RefAt.kept (by exact RA.out) k2 hRS)) | (go_at_call 53; refine (roffer_walk _ _ _ _ _ (by exact RB.out)).mono ?_; rintro e v2 ⟨rfl, h2, k3⟩))
          all_goals
            as_aux_lemma =>
              have hb2 := below_kept BA BA.size ((Kept.of_below (S := S) ((Below.refl _ _).drew)).trans k2) hws
              have h1 := h1.kept k3 (Ne.symm hRS)
              have B1 := below_kept hb2 hb2.size k3 hwr
              clear hb2 k2 k3 ca hc0 hc1 BA SA RA RB
              have G1 := Lib.hid (G.out.offer (n := y))
              obtain ⟨s1, hss⟩ : ∃ s1, s.offer y = s1 := ⟨_, rfl⟩
              rw [hss] at h1 h2 G1
              have S1 := Lib.hid h1
              have R1 := Lib.hid h2
              clear hss h1 h2
              obtain ⟨m0, m1, m2, m3, m4, m5, m6, n7, m8, m9, m10, mf⟩ := R1.out.cells
              have m7 : v2.cell? ⟨R, 7, none⟩ = some (.bool s1.fly) := n7
              clear n7
              go_wp2_with fail
              go_quiet ((first | (go_at_call 34; exact Calls.quiet_of_same (at_same _ _ _ _ S1.out)) | (go_at_call 39; exact Calls.quiet_of_same (flying_same _ _ _ _ S1.out)) | (go_at_call 30; exact Calls.quiet_of_same (left_same _ _ _ _ S1.out)) | (go_at_call 31; exact Calls.quiet_of_same (tries_same _ _ _ _ S1.out))))
              have hdr : Below v2.heap.size v2 (v2.drewN nq) := Joins.below_draws _ _ _
              have S2 := Lib.hid (S1.out.below hdr)
              have R2 := Lib.hid (R1.out.below hdr)
              have B2 := below_call B1 B1.size hdr
              clear m0 m1 m2 m3 m4 m5 m6 m7 m8 m9 m10 mf hdr S1 R1 B1
              go_wp2_with fail
              go_roundw
              case rel => exact ⟨n + 1, s1, by omega, by go_num, B2, S2.out, R2.out, G1.out⟩
              case measure => simp [intOf]; omega
        · by_cases x1 : x = 1
          · subst x1
            go_wp2_with fail
            refine (poll_walk _ _ _ _ SA.out G.out.ok).mono ?_
            rintro e v1 ⟨rfl, h1, k2⟩
            have RB := Lib.hid (RA.out.kept k2 hRS)
            go_wp2_with fail
            refine (rpoll_walk _ _ _ _ RB.out G.out.ok).mono ?_
            rintro e v2 ⟨rfl, h2, k3⟩
            as_aux_lemma =>
              have hb2 := below_kept BA BA.size k2 hws
              have h1 := h1.kept k3 (Ne.symm hRS)
              have B1 := below_kept hb2 hb2.size k3 hwr
              clear hb2 k2 k3 hc0 hc1 BA SA RA RB
              have G1 := Lib.hid (G.out.poll fair.out)
              obtain ⟨s1, hss⟩ : ∃ s1, s.poll (cf3 a0 a1 a2 bits) = s1 := ⟨_, rfl⟩
              rw [hss] at h1 h2 G1
              have S1 := Lib.hid h1
              have R1 := Lib.hid h2
              clear hss h1 h2
              obtain ⟨m0, m1, m2, m3, m4, m5, m6, n7, m8, m9, m10, mf⟩ := R1.out.cells
              have m7 : v2.cell? ⟨R, 7, none⟩ = some (.bool s1.fly) := n7
              clear n7
              go_wp2_with fail
              go_quiet ((first | (go_at_call 34; exact Calls.quiet_of_same (at_same _ _ _ _ S1.out)) | (go_at_call 39; exact Calls.quiet_of_same (flying_same _ _ _ _ S1.out)) | (go_at_call 30; exact Calls.quiet_of_same (left_same _ _ _ _ S1.out)) | (go_at_call 31; exact Calls.quiet_of_same (tries_same _ _ _ _ S1.out))))
              have hdr : Below v2.heap.size v2 (v2.drewN nq) := Joins.below_draws _ _ _
              have S2 := Lib.hid (S1.out.below hdr)
              have R2 := Lib.hid (R1.out.below hdr)
              have B2 := below_call B1 B1.size hdr
              clear m0 m1 m2 m3 m4 m5 m6 m7 m8 m9 m10 mf hdr S1 R1 B1
              go_wp2_with fail
              go_roundw
              case rel => exact ⟨n + 1, s1, by omega, by go_num, B2, S2.out, R2.out, G1.out⟩
              case measure => simp [intOf]; omega
          · by_cases x23 : x = 2 ∨ x = 3
            · rcases x23 with rfl | rfl
              · go_wp2_with fail
                go_region_with (first | (go_at_call 33; refine (answer_walk _ _ _ _ _ (by exact SA.out) fair.out G.out.ok).mono ?_; rintro e v1 ⟨rfl, h1, k2⟩; have ca : v1.cell? ⟨wr.heap.size, 0, none⟩ = some (.int .i64 2) := by { rw [k2.cell hAz hAS]; exact World.cell?_alloc_new _ _ _ _ }; have RB := Lib.hid (RefAt.kept (by exact RA.out) k2 hRS)) | (go_at_call 55; refine (ranswer_walk _ _ _ _ _ (by exact RB.out) fair.out G.out.ok).mono ?_; rintro e v2 ⟨rfl, h2, k3⟩))
                all_goals
                  as_aux_lemma =>
                    have hb2 := below_kept BA BA.size ((Kept.of_below (S := S) ((Below.refl _ _).drew)).trans k2) hws
                    have h1 := h1.kept k3 (Ne.symm hRS)
                    have B1 := below_kept hb2 hb2.size k3 hwr
                    clear hb2 k2 k3 ca hc0 hc1 BA SA RA RB
                    have G1 := Lib.hid (G.out.answer fair.out (ok := true))
                    obtain ⟨s1, hss⟩ : ∃ s1, s.answer (cf3 a0 a1 a2 bits) true = s1 := ⟨_, rfl⟩
                    rw [hss] at h1 h2 G1
                    have S1 := Lib.hid h1
                    have R1 := Lib.hid h2
                    clear hss h1 h2
                    obtain ⟨m0, m1, m2, m3, m4, m5, m6, n7, m8, m9, m10, mf⟩ := R1.out.cells
                    have m7 : v2.cell? ⟨R, 7, none⟩ = some (.bool s1.fly) := n7
                    clear n7
                    go_wp2_with fail
                    go_quiet ((first | (go_at_call 34; exact Calls.quiet_of_same (at_same _ _ _ _ S1.out)) | (go_at_call 39; exact Calls.quiet_of_same (flying_same _ _ _ _ S1.out)) | (go_at_call 30; exact Calls.quiet_of_same (left_same _ _ _ _ S1.out)) | (go_at_call 31; exact Calls.quiet_of_same (tries_same _ _ _ _ S1.out))))
                    have hdr : Below v2.heap.size v2 (v2.drewN nq) := Joins.below_draws _ _ _
                    have S2 := Lib.hid (S1.out.below hdr)
                    have R2 := Lib.hid (R1.out.below hdr)
                    have B2 := below_call B1 B1.size hdr
                    clear m0 m1 m2 m3 m4 m5 m6 m7 m8 m9 m10 mf hdr S1 R1 B1
                    go_wp2_with fail
                    go_roundw
                    case rel => exact ⟨n + 1, s1, by omega, by go_num, B2, S2.out, R2.out, G1.out⟩
                    case measure => simp [intOf]; omega
              · go_wp2_with fail
                go_region_with (first | (go_at_call 33; refine (answer_walk _ _ _ _ _ (by exact SA.out) fair.out G.out.ok).mono ?_; rintro e v1 ⟨rfl, h1, k2⟩; have ca : v1.cell? ⟨wr.heap.size, 0, none⟩ = some (.int .i64 3) := by { rw [k2.cell hAz hAS]; exact World.cell?_alloc_new _ _ _ _ }; have RB := Lib.hid (RefAt.kept (by exact RA.out) k2 hRS)) | (go_at_call 55; refine (ranswer_walk _ _ _ _ _ (by exact RB.out) fair.out G.out.ok).mono ?_; rintro e v2 ⟨rfl, h2, k3⟩))
                all_goals
                  as_aux_lemma =>
                    have hb2 := below_kept BA BA.size ((Kept.of_below (S := S) ((Below.refl _ _).drew)).trans k2) hws
                    have h1 := h1.kept k3 (Ne.symm hRS)
                    have B1 := below_kept hb2 hb2.size k3 hwr
                    clear hb2 k2 k3 ca hc0 hc1 BA SA RA RB
                    have G1 := Lib.hid (G.out.answer fair.out (ok := false))
                    obtain ⟨s1, hss⟩ : ∃ s1, s.answer (cf3 a0 a1 a2 bits) false = s1 := ⟨_, rfl⟩
                    rw [hss] at h1 h2 G1
                    have S1 := Lib.hid h1
                    have R1 := Lib.hid h2
                    clear hss h1 h2
                    obtain ⟨m0, m1, m2, m3, m4, m5, m6, n7, m8, m9, m10, mf⟩ := R1.out.cells
                    have m7 : v2.cell? ⟨R, 7, none⟩ = some (.bool s1.fly) := n7
                    clear n7
                    go_wp2_with fail
                    go_quiet ((first | (go_at_call 34; exact Calls.quiet_of_same (at_same _ _ _ _ S1.out)) | (go_at_call 39; exact Calls.quiet_of_same (flying_same _ _ _ _ S1.out)) | (go_at_call 30; exact Calls.quiet_of_same (left_same _ _ _ _ S1.out)) | (go_at_call 31; exact Calls.quiet_of_same (tries_same _ _ _ _ S1.out))))
                    have hdr : Below v2.heap.size v2 (v2.drewN nq) := Joins.below_draws _ _ _
                    have S2 := Lib.hid (S1.out.below hdr)
                    have R2 := Lib.hid (R1.out.below hdr)
                    have B2 := below_call B1 B1.size hdr
                    clear m0 m1 m2 m3 m4 m5 m6 m7 m8 m9 m10 mf hdr S1 R1 B1
                    go_wp2_with fail
                    go_roundw
                    case rel => exact ⟨n + 1, s1, by omega, by go_num, B2, S2.out, R2.out, G1.out⟩
                    case measure => simp [intOf]; omega
            · by_cases x4 : x = 4
              · subst x4
                go_wp2_with fail
                go_region_with (first | (go_at_call 32; refine (tick_walk _ _ _ _ _ yhi (by exact SA.out) fair.out G.out.ok).mono ?_; rintro e v1 ⟨rfl, h1, k2⟩; have ca : v1.cell? ⟨wr.heap.size, 1, none⟩ = some (.int .i64 y) := by { rw [k2.cell hAz hAS]; exact World.cell?_alloc_new _ _ _ _ }; have RB := Lib.hid (RefAt.kept (by exact RA.out) k2 hRS)) | (go_at_call 56; refine (rtick_walk _ _ _ _ _ yhi (by exact RB.out) fair.out G.out.ok).mono ?_; rintro e v2 ⟨rfl, h2, k3⟩))
                all_goals
                  as_aux_lemma =>
                    have hb2 := below_kept BA BA.size ((Kept.of_below (S := S) ((Below.refl _ _).drew)).trans k2) hws
                    have h1 := h1.kept k3 (Ne.symm hRS)
                    have B1 := below_kept hb2 hb2.size k3 hwr
                    clear hb2 k2 k3 ca hc0 hc1 BA SA RA RB
                    have G1 := Lib.hid (G.out.tick fair.out (n := y))
                    obtain ⟨s1, hss⟩ : ∃ s1, s.tick (cf3 a0 a1 a2 bits) y = s1 := ⟨_, rfl⟩
                    rw [hss] at h1 h2 G1
                    have S1 := Lib.hid h1
                    have R1 := Lib.hid h2
                    clear hss h1 h2
                    obtain ⟨m0, m1, m2, m3, m4, m5, m6, n7, m8, m9, m10, mf⟩ := R1.out.cells
                    have m7 : v2.cell? ⟨R, 7, none⟩ = some (.bool s1.fly) := n7
                    clear n7
                    go_wp2_with fail
                    go_quiet ((first | (go_at_call 34; exact Calls.quiet_of_same (at_same _ _ _ _ S1.out)) | (go_at_call 39; exact Calls.quiet_of_same (flying_same _ _ _ _ S1.out)) | (go_at_call 30; exact Calls.quiet_of_same (left_same _ _ _ _ S1.out)) | (go_at_call 31; exact Calls.quiet_of_same (tries_same _ _ _ _ S1.out))))
                    have hdr : Below v2.heap.size v2 (v2.drewN nq) := Joins.below_draws _ _ _
                    have S2 := Lib.hid (S1.out.below hdr)
                    have R2 := Lib.hid (R1.out.below hdr)
                    have B2 := below_call B1 B1.size hdr
                    clear m0 m1 m2 m3 m4 m5 m6 m7 m8 m9 m10 mf hdr S1 R1 B1
                    go_wp2_with fail
                    go_roundw
                    case rel => exact ⟨n + 1, s1, by omega, by go_num, B2, S2.out, R2.out, G1.out⟩
                    case measure => simp [intOf]; omega
              · by_cases x5 : x = 5
                · subst x5
                  go_wp2_with fail
                  refine (drop_walk _ _ _ _ SA.out fair.out G.out.ok).mono ?_
                  rintro e v1 ⟨rfl, h1, k2⟩
                  have RB := Lib.hid (RA.out.kept k2 hRS)
                  go_wp2_with fail
                  refine (rdrop_walk _ _ _ _ RB.out fair.out G.out.ok).mono ?_
                  rintro e v2 ⟨rfl, h2, k3⟩
                  as_aux_lemma =>
                    have hb2 := below_kept BA BA.size k2 hws
                    have h1 := h1.kept k3 (Ne.symm hRS)
                    have B1 := below_kept hb2 hb2.size k3 hwr
                    clear hb2 k2 k3 hc0 hc1 BA SA RA RB
                    have G1 := Lib.hid (G.out.drop fair.out)
                    obtain ⟨s1, hss⟩ : ∃ s1, s.drop (cf3 a0 a1 a2 bits) = s1 := ⟨_, rfl⟩
                    rw [hss] at h1 h2 G1
                    have S1 := Lib.hid h1
                    have R1 := Lib.hid h2
                    clear hss h1 h2
                    obtain ⟨m0, m1, m2, m3, m4, m5, m6, n7, m8, m9, m10, mf⟩ := R1.out.cells
                    have m7 : v2.cell? ⟨R, 7, none⟩ = some (.bool s1.fly) := n7
                    clear n7
                    go_wp2_with fail
                    go_quiet ((first | (go_at_call 34; exact Calls.quiet_of_same (at_same _ _ _ _ S1.out)) | (go_at_call 39; exact Calls.quiet_of_same (flying_same _ _ _ _ S1.out)) | (go_at_call 30; exact Calls.quiet_of_same (left_same _ _ _ _ S1.out)) | (go_at_call 31; exact Calls.quiet_of_same (tries_same _ _ _ _ S1.out))))
                    have hdr : Below v2.heap.size v2 (v2.drewN nq) := Joins.below_draws _ _ _
                    have S2 := Lib.hid (S1.out.below hdr)
                    have R2 := Lib.hid (R1.out.below hdr)
                    have B2 := below_call B1 B1.size hdr
                    clear m0 m1 m2 m3 m4 m5 m6 m7 m8 m9 m10 mf hdr S1 R1 B1
                    go_wp2_with fail
                    go_roundw
                    case rel => exact ⟨n + 1, s1, by omega, by go_num, B2, S2.out, R2.out, G1.out⟩
                    case measure => simp [intOf]; omega
                · have q0 : (x == 0) = false := by simp [x0]
                  have q1 : (x == 1) = false := by simp [x1]
                  have q2 : (x == 2) = false := by simp; omega
                  have q3 : (x == 3) = false := by simp; omega
                  have q4 : (x == 4) = false := by simp [x4]
                  have q5 : (x == 5) = false := by simp [x5]
                  clear x0 x1 x23 x4 x5
                  go_wp2_with fail
                  revert SA RA BA
                  generalize (wr.alloc (.cells #[.int .i64 x, .int .i64 y] 78)) = v2
                  intro S1 R1 B1
                  obtain ⟨s1, hss⟩ : ∃ s1, s = s1 := ⟨_, rfl⟩
                  subst hss
                  have G1 := G
                  as_aux_lemma =>
                    obtain ⟨m0, m1, m2, m3, m4, m5, m6, n7, m8, m9, m10, mf⟩ := R1.out.cells
                    have m7 : v2.cell? ⟨R, 7, none⟩ = some (.bool s.fly) := n7
                    clear n7
                    go_wp2_with fail
                    go_quiet ((first | (go_at_call 34; exact Calls.quiet_of_same (at_same _ _ _ _ S1.out)) | (go_at_call 39; exact Calls.quiet_of_same (flying_same _ _ _ _ S1.out)) | (go_at_call 30; exact Calls.quiet_of_same (left_same _ _ _ _ S1.out)) | (go_at_call 31; exact Calls.quiet_of_same (tries_same _ _ _ _ S1.out))))
                    have hdr : Below v2.heap.size v2 (v2.drewN nq) := Joins.below_draws _ _ _
                    have S2 := Lib.hid (S1.out.below hdr)
                    have R2 := Lib.hid (R1.out.below hdr)
                    have B2 := below_call B1 B1.size hdr
                    clear m0 m1 m2 m3 m4 m5 m6 m7 m8 m9 m10 mf hdr S1 R1 B1
                    go_wp2_with fail
                    go_roundw
                    case rel => exact ⟨n + 1, s, by omega, by go_num, B2, S2.out, R2.out, G1.out⟩
                    case measure => simp [intOf]; omega
      · go_wp2_with fail
        go_ret
        exact ⟨rfl, hbr⟩
end Go.Proofs.Ytmollbnhndjjeaa
