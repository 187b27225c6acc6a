/- SenderOrder: the walk. -/
import Derived.Test.YtmollbnhndjjeaaFa
namespace Go.Proofs.Ytmollbnhndjjeaa
open Go.RowKit

theorem polls_lt {s : St} (h : s.polls = true) : s.pos < s.known := by
  unfold St.polls at h
  simp only [Bool.and_eq_true, decide_eq_true_eq] at h
  exact h.2
theorem poll_pk (c : Cf) (s : St) : (s.poll c).pos = s.pos ∧ (s.poll c).known = s.known := by unfold St.poll; split <;> exact ⟨rfl, rfl⟩
theorem fail_pk (c : Cf) (s : St) : (s.fail c).pos = s.pos ∧ (s.fail c).known = s.known := ⟨rfl, rfl⟩
theorem lapse_pk (s : St) (n : Int) : (s.lapse n).pos = s.pos ∧ (s.lapse n).known = s.known := by unfold St.lapse; split <;> exact ⟨rfl, rfl⟩
theorem drop_pk (c : Cf) (s : St) : (s.drop c).pos = s.pos ∧ (s.drop c).known = s.known := by unfold St.drop; split <;> exact ⟨rfl, rfl⟩
theorem tick_pk (c : Cf) (s : St) (n : Int) : (s.tick c n).pos = s.pos ∧ (s.tick c n).known = s.known := by
  unfold St.tick
  split
  · exact ⟨rfl, rfl⟩
  · split
    · split
      · exact ⟨rfl, rfl⟩
      · obtain ⟨a, b⟩ := lapse_pk (s.fail c) (n - s.left)
        exact ⟨a.trans (fail_pk c s).1, b.trans (fail_pk c s).2⟩
    · exact lapse_pk s n
theorem answer_pk (c : Cf) {s : St} (h : s.fly = true) : (s.answer c true).pos = s.pos + 1 ∧ (s.answer c true).known = s.known := by unfold St.answer; rw [if_pos h, if_pos rfl]; exact ⟨rfl, rfl⟩
theorem answer_pk0 (c : Cf) {s : St} {ok : Bool} (h : s.fly = false) : (s.answer c ok).pos = s.pos ∧ (s.answer c ok).known = s.known := by unfold St.answer; rw [if_neg (by rw [h]; decide)]; exact ⟨rfl, rfl⟩
theorem answer_pkf (c : Cf) (s : St) : (s.answer c false).pos = s.pos ∧ (s.answer c false).known = s.known := by unfold St.answer; split <;> exact ⟨rfl, rfl⟩

theorem below_box {w wr : World} (h : Below w.heap.size w wr) (x y : Int) : Below w.heap.size w (wr.alloc (.cells #[.int .i64 x, .int .i64 y] 78)) := h.alloc h.size _

set_option maxRecDepth 100000 in
set_option maxHeartbeats 8000000 in
theorem order_walk (a0 a1 a2 bits : Int) (ha : Option Addr) (len cap : Nat) (zs : List (Int × Int)) (w : World) (_ : -9223372036854775808 ≤ a0) (_ : a0 ≤ 9223372036854775807) (_ : -9223372036854775808 ≤ a1) (_ : a1 ≤ 9223372036854775807) (_ : -9223372036854775808 ≤ a2) (_ : a2 ≤ 9223372036854775807) (_ : 0 ≤ bits) (_ : bits ≤ 18446744073709551615) (hi : Fr.IsActs w ha len cap zs) :
    Calls Try.prog 18 #[.agg #[.int .i64 a0, .int .i64 a1, .int .i64 a2], .int .u64 bits, .slice ha len cap] w fun e w' => e = .returned (.bool true) ∧ Below w.heap.size w w' := by
  obtain ⟨hz, hlc, hcm, hwf, hcell⟩ := hi
  have hlm : len ≤ 9223372036854775807 := by unfold maxLen at hcm; omega
  have HZ := Lib.hid hz
  have HW := Lib.hid hwf
  have HX := Lib.hid hcell
  clear hz hcell hwf hlc hcm
  have fair := Lib.hid (cf3_fair a0 a1 a2 bits)
  go_enter Try.func18, Try.ntmps18
  go_wp2_with fail
  refine (config_any _ _ _ _ _).mono ?_
  rintro e w1 ⟨rfl, hb⟩
  have B1 : Below w.heap.size w w1 := ((Below.refl _ _).alloc (Nat.le_refl _) _).trans (hb.mono (by simp))
  clear hb
  go_wp2_with fail
  refine (new_ok (cf3 a0 a1 a2 bits) 0 _ fair.out (by omega) (by omega)).mono ?_
  rintro e w3 ⟨S, rfl, h0, B0, hS⟩
  have H0 : Hid (SndAt w3 S (cf3 a0 a1 a2 bits) ⟨0, 0, 0, 0, 0⟩) := Lib.hid h0
  have B3 := below_call B1 B1.size B0
  have hws : w.heap.size ≤ S := by have := B1.size; omega
  clear h0 B0 hS B1
  go_wp2_with fail
  refine (alive16 _).mono ?_
  rintro e w4 ⟨rfl, hb⟩
  have H4 := Lib.hid (H0.out.below hb)
  have B4 := below_call B3 B3.size hb
  clear hb H0 B3
  by_cases hl : 300 < len
  · go_wp2_with fail
    refine (alive16 _).mono ?_
    rintro e w5 ⟨rfl, hb⟩
    have B5 := below_call B4 B4.size hb
    clear hb
    go_wp2_with fail
    go_ret
    exact ⟨rfl, B5⟩
  · go_wp2_with fail
    go_loopw [9, 10, 42] (fun cf kn i wr => ∃ (n : Nat) (s : St), n ≤ len ∧ i = .int .i64 n ∧ cf = .int .i64 s.pos ∧ kn = .int .i64 s.known ∧ Below w.heap.size w wr ∧ SndAt wr S (cf3 a0 a1 a2 bits) s ∧ s.Good) (fun _ _ i _ => 301 - (intOf i).toNat)
    case atStart => exact ⟨0, ⟨0, 0, 0, 0, 0⟩, by omega, rfl, rfl, rfl, B4, H4.out, St.Good.start⟩
    case round =>
      obtain ⟨n, s, hn, rfl, rfl, rfl, hbr, hsr, hg⟩ := hrel
      clear H4 B4
      have HS := Lib.hid hsr
      have G := Lib.hid hg
      have p0 := hg.ok.p0
      have pk := hg.ok.pk
      have k1 := hg.ok.k1
      clear hsr hg
      by_cases hnL : n < len
      · obtain ⟨b, o, rfl, hbw, hx⟩ := HX.out (by omega)
        obtain ⟨hx0, hx1⟩ := hx n hnL
        obtain ⟨⟨x, y⟩, hxx⟩ : ∃ x, zs.getD n (0, 0) = x := ⟨_, rfl⟩
        rw [hxx] at hx0 hx1
        have hc0 : wr.cell? ⟨b, o + n * 2, none⟩ = some (.int .i64 x) := by rw [hbr.cell (p := ⟨b, o + n * 2, none⟩) hbw]; exact hx0
        have hc1 : wr.cell? ⟨b, o + n * 2 + 1, none⟩ = some (.int .i64 y) := by rw [hbr.cell (p := ⟨b, o + n * 2 + 1, none⟩) hbw]; exact hx1
        have xy := HW.out (x, y) (by
          rw [← hxx, List.getD_eq_getElem?_getD, List.getElem?_eq_getElem (by rw [HZ.out]; exact hnL)]
          exact List.getElem_mem _)
        obtain ⟨xlo, xhi⟩ := bounds_i64 xy.1
        obtain ⟨ylo, yhi⟩ := bounds_i64 xy.2
        clear hx hx0 hx1 hxx xy
        have hwsz := hbr.size
        have SA := Lib.hid (HS.out.below ((Below.refl _ wr).alloc (Nat.le_refl _) (.cells #[.int .i64 x, .int .i64 y] 78)))
        have BA := below_box hbr x y
        have hAS : wr.heap.size ≠ S := by have := HS.out.lt; omega
        have hAz : wr.heap.size < (wr.alloc (.cells #[.int .i64 x, .int .i64 y] 78)).heap.size := by simp
        clear HS hbr hwsz
        by_cases x0 : x = 0
        · subst x0
          have hoff := hAS
          go_wp2_with fail
          refine (offer_walk _ _ _ _ _ SA.out).mono ?_
          rintro e v1 ⟨rfl, h1, k2⟩
          have ca : v1.cell? ⟨wr.heap.size, 1, none⟩ = some (.int .i64 y) := by rw [k2.cell hAz hAS]; exact World.cell?_alloc_new _ _ _ _
          have B1 := below_kept BA BA.size k2 hws
          clear k2 hc0 hc1 BA SA
          by_cases hok : s.offerOk y = true
          · have e1 : s.offerE y = 0 := by unfold St.offerE; rw [if_pos hok]
            have hs1 : s.offer y = { s with known := y } := by unfold St.offer; rw [if_pos hok]
            have G1 := Lib.hid (G.out.offer (n := y))
            rw [hs1] at h1 G1
            rw [e1]
            obtain ⟨s1, hss⟩ : ∃ s1, ({ s with known := y } : St) = s1 := ⟨_, rfl⟩
            have ep : s.pos = s1.pos := by rw [← hss]
            have ek : y = s1.known := by rw [← hss]
            rw [hss] at h1 G1
            have S1 := Lib.hid h1
            have EP := Lib.hid ep
            have EK := Lib.hid ek
            clear hss e1 hs1 h1 ep ek hok
            go_wp2_with fail
            refine (at_walk _ _ _ _ S1.out).mono ?_
            rintro e z1 ⟨rfl, rfl⟩
            rw [← EP.out]
            go_wp2_with fail
            refine (at_walk _ _ _ _ S1.out).mono ?_
            rintro e z2 ⟨rfl, rfl⟩
            rw [← EP.out]
            have hpk : s.pos ≤ y := by rw [EP.out, EK.out]; exact G1.out.ok.pk
            go_wp2_with fail
            go_roundw
            case rel => exact ⟨n + 1, s1, by omega, by go_num, by rw [EP.out], by rw [EK.out], B1, S1.out, G1.out⟩
            case measure => simp [intOf]; omega
          · have e1 : s.offerE y = 3 := by unfold St.offerE; rw [if_neg hok]
            have hs1 : s.offer y = s := by unfold St.offer; rw [if_neg hok]
            rw [hs1] at h1
            rw [e1]
            have S1 := Lib.hid h1
            clear e1 hs1 h1 hok
            go_wp2_with fail
            refine (at_walk _ _ _ _ S1.out).mono ?_
            rintro e z1 ⟨rfl, rfl⟩
            go_wp2_with fail
            refine (at_walk _ _ _ _ S1.out).mono ?_
            rintro e z2 ⟨rfl, rfl⟩
            go_wp2_with fail
            go_roundw
            case rel => exact ⟨n + 1, s, by omega, by go_num, rfl, rfl, B1, S1.out, G.out⟩
            case measure => simp [intOf]; omega
        · by_cases x1 : x = 1
          · subst x1
            go_wp2_with fail
            refine (poll_walk _ _ _ _ SA.out G.out.ok).mono ?_
            rintro e v1 ⟨rfl, h1, k2⟩
            have B1 := below_kept BA BA.size k2 hws
            clear k2 hc0 hc1 BA SA x0
            cases hok : s.polls with
            | true =>
              have hlt := polls_lt hok
              have e1 : s.pollN = s.pos := by unfold St.pollN; rw [if_pos hok]
              rw [e1]
              have hfl : (s.poll (cf3 a0 a1 a2 bits)).fly = true := by unfold St.poll; rw [if_pos hok]; rfl
              have HFL := Lib.hid hfl
              clear hfl e1 hok
              have G1 := Lib.hid (G.out.poll fair.out)
              obtain ⟨s1, hss⟩ : ∃ s1, s.poll (cf3 a0 a1 a2 bits) = s1 := ⟨_, rfl⟩
              have epk := poll_pk (cf3 a0 a1 a2 bits) s
              rw [hss] at h1 G1 epk HFL
              have S1 := Lib.hid h1
              have EP := Lib.hid epk.1.symm
              have EK := Lib.hid epk.2.symm
              clear hss h1 epk
              go_wp2_with fail
              refine (flying_walk _ _ _ _ S1.out).mono ?_
              rintro e z0 ⟨rfl, rfl⟩
              rw [HFL.out]
              go_wp2_with fail
              refine (at_walk _ _ _ _ S1.out).mono ?_
              rintro e z1 ⟨rfl, rfl⟩
              rw [← EP.out]
              go_wp2_with fail
              refine (at_walk _ _ _ _ S1.out).mono ?_
              rintro e z2 ⟨rfl, rfl⟩
              rw [← EP.out]
              have hpk : s.pos ≤ s.known := by rw [EP.out, EK.out]; exact G1.out.ok.pk
              go_wp2_with fail
              go_roundw
              case rel => exact ⟨n + 1, s1, by omega, by go_num, by rw [← EP.out], by rw [← EK.out], B1, S1.out, G1.out⟩
              case measure => simp [intOf]; omega
            | false =>
              have e1 : s.pollN = 0 := by unfold St.pollN; rw [hok]; rfl
              rw [e1]
              clear e1 hok
              have G1 := Lib.hid (G.out.poll fair.out)
              obtain ⟨s1, hss⟩ : ∃ s1, s.poll (cf3 a0 a1 a2 bits) = s1 := ⟨_, rfl⟩
              have epk := poll_pk (cf3 a0 a1 a2 bits) s
              rw [hss] at h1 G1 epk
              have S1 := Lib.hid h1
              have EP := Lib.hid epk.1.symm
              have EK := Lib.hid epk.2.symm
              clear hss h1 epk
              go_wp2_with fail
              refine (at_walk _ _ _ _ S1.out).mono ?_
              rintro e z1 ⟨rfl, rfl⟩
              rw [← EP.out]
              go_wp2_with fail
              refine (at_walk _ _ _ _ S1.out).mono ?_
              rintro e z2 ⟨rfl, rfl⟩
              rw [← EP.out]
              have hpk : s.pos ≤ s.known := by rw [EP.out, EK.out]; exact G1.out.ok.pk
              go_wp2_with fail
              go_roundw
              case rel => exact ⟨n + 1, s1, by omega, by go_num, by rw [← EP.out], by rw [← EK.out], B1, S1.out, G1.out⟩
              case measure => simp [intOf]; omega
          · by_cases x23 : x = 2 ∨ x = 3
            · have SA' := SA
              rcases x23 with rfl | rfl
              · go_wp2_with fail
                refine (flying_walk _ _ _ _ SA.out).mono ?_
                rintro e z0 ⟨rfl, rfl⟩
                go_wp2_with fail
                refine (answer_walk _ _ _ _ _ SA.out fair.out G.out.ok).mono ?_
                rintro e v1 ⟨rfl, h1, k2⟩
                have ca : v1.cell? ⟨wr.heap.size, 0, none⟩ = some (.int .i64 2) := by rw [k2.cell hAz hAS]; exact World.cell?_alloc_new _ _ _ _
                have B1 := below_kept BA BA.size k2 hws
                clear k2 hc0 hc1 BA SA SA' x0 x1
                cases hf : s.fly with
                | true =>
                  have hlt := G.out.live (St.fly_iff.1 hf)
                  rw [show (true && true) = true from rfl]
                  have G1 := Lib.hid (G.out.answer fair.out (ok := true))
                  obtain ⟨s1, hss⟩ : ∃ s1, s.answer (cf3 a0 a1 a2 bits) true = s1 := ⟨_, rfl⟩
                  have epk := answer_pk (cf3 a0 a1 a2 bits) hf
                  rw [hss] at h1 G1 epk
                  have S1 := Lib.hid h1
                  have EP := Lib.hid epk.1.symm
                  have EK := Lib.hid epk.2.symm
                  clear hf hss h1 epk
                  go_wp2_with fail
                  refine (at_walk _ _ _ _ S1.out).mono ?_
                  rintro e z1 ⟨rfl, rfl⟩
                  rw [← EP.out]
                  go_wp2_with fail
                  refine (at_walk _ _ _ _ S1.out).mono ?_
                  rintro e z2 ⟨rfl, rfl⟩
                  rw [← EP.out]
                  have hpk : s.pos + 1 ≤ s.known := by rw [EP.out, EK.out]; exact G1.out.ok.pk
                  go_wp2_with fail
                  go_roundw
                  case rel => exact ⟨n + 1, s1, by omega, by go_num, by rw [← EP.out], by rw [← EK.out], B1, S1.out, G1.out⟩
                  case measure => simp [intOf]; omega
                | false =>
                  rw [show (false && true) = false from rfl]
                  have G1 := Lib.hid (G.out.answer fair.out (ok := true))
                  obtain ⟨s1, hss⟩ : ∃ s1, s.answer (cf3 a0 a1 a2 bits) true = s1 := ⟨_, rfl⟩
                  have epk := answer_pk0 (cf3 a0 a1 a2 bits) (ok := true) hf
                  rw [hss] at h1 G1 epk
                  have S1 := Lib.hid h1
                  have EP := Lib.hid epk.1.symm
                  have EK := Lib.hid epk.2.symm
                  clear hf hss h1 epk
                  go_wp2_with fail
                  refine (at_walk _ _ _ _ S1.out).mono ?_
                  rintro e z1 ⟨rfl, rfl⟩
                  rw [← EP.out]
                  go_wp2_with fail
                  refine (at_walk _ _ _ _ S1.out).mono ?_
                  rintro e z2 ⟨rfl, rfl⟩
                  rw [← EP.out]
                  have hpk : s.pos ≤ s.known := by rw [EP.out, EK.out]; exact G1.out.ok.pk
                  go_wp2_with fail
                  go_roundw
                  case rel => exact ⟨n + 1, s1, by omega, by go_num, by rw [← EP.out], by rw [← EK.out], B1, S1.out, G1.out⟩
                  case measure => simp [intOf]; omega
              · go_wp2_with fail
                refine (flying_walk _ _ _ _ SA.out).mono ?_
                rintro e z0 ⟨rfl, rfl⟩
                go_wp2_with fail
                refine (answer_walk _ _ _ _ _ SA.out fair.out G.out.ok).mono ?_
                rintro e v1 ⟨rfl, h1, k2⟩
                have ca : v1.cell? ⟨wr.heap.size, 0, none⟩ = some (.int .i64 3) := by rw [k2.cell hAz hAS]; exact World.cell?_alloc_new _ _ _ _
                have B1 := below_kept BA BA.size k2 hws
                clear k2 hc0 hc1 BA SA SA' x0 x1
                rw [Bool.and_false]
                have G1 := Lib.hid (G.out.answer fair.out (ok := false))
                obtain ⟨s1, hss⟩ : ∃ s1, s.answer (cf3 a0 a1 a2 bits) false = s1 := ⟨_, rfl⟩
                have epk := answer_pkf (cf3 a0 a1 a2 bits) s
                rw [hss] at h1 G1 epk
                have S1 := Lib.hid h1
                have EP := Lib.hid epk.1.symm
                have EK := Lib.hid epk.2.symm
                clear hss h1 epk
                cases hf : s.fly with
                | true =>
                  clear hf
                  go_wp2_with fail
                  refine (at_walk _ _ _ _ S1.out).mono ?_
                  rintro e z1 ⟨rfl, rfl⟩
                  rw [← EP.out]
                  go_wp2_with fail
                  refine (at_walk _ _ _ _ S1.out).mono ?_
                  rintro e z2 ⟨rfl, rfl⟩
                  rw [← EP.out]
                  have hpk : s.pos ≤ s.known := by rw [EP.out, EK.out]; exact G1.out.ok.pk
                  go_wp2_with fail
                  go_roundw
                  case rel => exact ⟨n + 1, s1, by omega, by go_num, by rw [← EP.out], by rw [← EK.out], B1, S1.out, G1.out⟩
                  case measure => simp [intOf]; omega
                | false =>
                  clear hf
                  go_wp2_with fail
                  refine (at_walk _ _ _ _ S1.out).mono ?_
                  rintro e z1 ⟨rfl, rfl⟩
                  rw [← EP.out]
                  go_wp2_with fail
                  refine (at_walk _ _ _ _ S1.out).mono ?_
                  rintro e z2 ⟨rfl, rfl⟩
                  rw [← EP.out]
                  have hpk : s.pos ≤ s.known := by rw [EP.out, EK.out]; exact G1.out.ok.pk
                  go_wp2_with fail
                  go_roundw
                  case rel => exact ⟨n + 1, s1, by omega, by go_num, by rw [← EP.out], by rw [← EK.out], B1, S1.out, G1.out⟩
                  case measure => simp [intOf]; omega
            · by_cases x4 : x = 4
              · subst x4
                go_wp2_with fail
                refine (tick_walk _ _ _ _ _ yhi SA.out fair.out G.out.ok).mono ?_
                rintro e v1 ⟨rfl, h1, k2⟩
                have B1 := below_kept BA BA.size k2 hws
                clear k2 hc0 hc1 BA SA x0 x1 x23
                have G1 := Lib.hid (G.out.tick fair.out (n := y))
                obtain ⟨s1, hss⟩ : ∃ s1, s.tick (cf3 a0 a1 a2 bits) y = s1 := ⟨_, rfl⟩
                have epk := tick_pk (cf3 a0 a1 a2 bits) s y
                rw [hss] at h1 G1 epk
                have S1 := Lib.hid h1
                have EP := Lib.hid epk.1.symm
                have EK := Lib.hid epk.2.symm
                clear hss h1 epk
                go_wp2_with fail
                refine (at_walk _ _ _ _ S1.out).mono ?_
                rintro e z1 ⟨rfl, rfl⟩
                rw [← EP.out]
                go_wp2_with fail
                refine (at_walk _ _ _ _ S1.out).mono ?_
                rintro e z2 ⟨rfl, rfl⟩
                rw [← EP.out]
                have hpk : s.pos ≤ s.known := by rw [EP.out, EK.out]; exact G1.out.ok.pk
                go_wp2_with fail
                go_roundw
                case rel => exact ⟨n + 1, s1, by omega, by go_num, by rw [← EP.out], by rw [← EK.out], B1, S1.out, G1.out⟩
                case measure => simp [intOf]; omega
              · by_cases x5 : x = 5
                · subst x5
                  go_wp2_with fail
                  refine (drop_walk _ _ _ _ SA.out fair.out G.out.ok).mono ?_
                  rintro e v1 ⟨rfl, h1, k2⟩
                  have B1 := below_kept BA BA.size k2 hws
                  clear k2 hc0 hc1 BA SA x0 x1 x23 x4
                  have G1 := Lib.hid (G.out.drop fair.out)
                  obtain ⟨s1, hss⟩ : ∃ s1, s.drop (cf3 a0 a1 a2 bits) = s1 := ⟨_, rfl⟩
                  have epk := drop_pk (cf3 a0 a1 a2 bits) s
                  rw [hss] at h1 G1 epk
                  have S1 := Lib.hid h1
                  have EP := Lib.hid epk.1.symm
                  have EK := Lib.hid epk.2.symm
                  clear hss h1 epk
                  go_wp2_with fail
                  refine (at_walk _ _ _ _ S1.out).mono ?_
                  rintro e z1 ⟨rfl, rfl⟩
                  rw [← EP.out]
                  go_wp2_with fail
                  refine (at_walk _ _ _ _ S1.out).mono ?_
                  rintro e z2 ⟨rfl, rfl⟩
                  rw [← EP.out]
                  have hpk : s.pos ≤ s.known := by rw [EP.out, EK.out]; exact G1.out.ok.pk
                  go_wp2_with fail
                  go_roundw
                  case rel => exact ⟨n + 1, s1, by omega, by go_num, by rw [← EP.out], by rw [← EK.out], B1, S1.out, G1.out⟩
                  case measure => simp [intOf]; omega
                · have q0 : (x == 0) = false := by simp [x0]
                  have q1 : (x == 1) = false := by simp [x1]
                  have q2 : (x == 2) = false := by simp; omega
                  have q3 : (x == 3) = false := by simp; omega
                  have q4 : (x == 4) = false := by simp [x4]
                  have q5 : (x == 5) = false := by simp [x5]
                  have EP := Lib.hid (Eq.refl s.pos)
                  have EK := Lib.hid (Eq.refl s.known)
                  have G1 := G
                  clear x0 x1 x23 x4 x5
                  go_wp2_with fail
                  refine (at_walk _ _ _ _ SA.out).mono ?_
                  rintro e z1 ⟨rfl, rfl⟩
                  go_wp2_with fail
                  refine (at_walk _ _ _ _ SA.out).mono ?_
                  rintro e z2 ⟨rfl, rfl⟩
                  go_wp2_with fail
                  go_roundw
                  case rel => exact ⟨n + 1, s, by omega, by go_num, rfl, rfl, BA, SA.out, G.out⟩
                  case measure => simp [intOf]; omega
      · go_wp2_with fail
        go_ret
        exact ⟨rfl, hbr⟩
end Go.Proofs.Ytmollbnhndjjeaa
