/- DeframePieces: the walk. -/
import Derived.Test.YtmollbnhndjjeaaBi
namespace Go.Proofs.Ytmollbnhndjjeaa
open Go.RowKit

theorem com_of {w : World} {a : Option Addr} {cap : Nat} {zs : List Int} (h : Fr.IsInts .u8 w a zs.length cap zs) : Com w a cap zs := by
  obtain ⟨_, hlc, _, hwf, hx⟩ := h
  refine ⟨fun z hz => ?_, hlc, hx⟩
  have := bounds_u8 (hwf z hz)
  exact ⟨by omega, by omega⟩
theorem Pcs.start {w4 : World} {q : Nat} {s : Df} (h : Rest w4 q s (.slice none 0 0)) : Pcs w4 q s w4 [] (.slice none 0 0) (.slice none 0 0) [] :=
  ⟨Kep.refl _ _, h, by simp [Value.ownBlock], World.ownsRow_nil _ _ _ _, trivial, by simp⟩
/-- Where a list is parted. -/
theorem parted (l : List Int) (k : Int) (h0 : 0 ≤ k) (h1 : k ≤ l.length) : ∃ x y, l = x ++ y ∧ k = (x.length : Int) :=
  ⟨l.take k.toNat, l.drop k.toNat, (List.take_append_drop _ _).symm, by simp; omega⟩

theorem Fed.later {W w w' : World} {p q : Nat} {o : Option Nat} {s t : Df} {nv nq lv : Value} {vs : List Value} {fs : List (List Int)} (h : Fed W w p o s nv lv vs fs) (hq : Rest w q t nq) (hpq : p ≠ q) (k : Kep q w w') :
    Rest w' p s nv ∧ w'.ownsRow W.heap.size 53 1 lv vs.length vs ∧ Each W.heap.size w' vs fs := by
  refine ⟨⟨(k.block p (blk_lt h.rest.1) hpq).trans h.rest.1, own_stay h.rest.2 (fun i e => k.block i (h.rest.2.lt i e).2 (fun e' => own_ne h.rest.2 hq.1 (by decide) (e' ▸ e)))⟩, own_stay h.found (fun i e => k.block i (h.found.lt i e).2 (fun e' => own_ne h.found hq.1 (by decide) (e' ▸ e))), h.each.stay (fun v hv i e hB hi => k.block i hi (fun e' => ?_))⟩
  obtain ⟨_, _, cs, fr, hc⟩ := (h.each.blocks v hv).1 i e
  rw [e', hq.1] at hc
  simp [blk] at hc
theorem below_step2 {w w4 w' : World} {q : Nat} (h : Below w.heap.size w w4) (hq : w.heap.size ≤ q) (k : Kep q w4 w') : Below w.heap.size w w' :=
  h.trans ⟨k.os, k.tape, k.output, k.size, fun i hi => k.block i (Nat.lt_of_lt_of_le hi h.size) (by omega)⟩
theorem cut_range (c : Int) (L : Nat) (h : L ≤ 2000) : 0 ≤ wrap64 ((IntKind.u64.wrap c).tmod ((L : Int) + 1)) ∧ wrap64 ((IntKind.u64.wrap c).tmod ((L : Int) + 1)) ≤ L := by
  have e : IntKind.u64.wrap c = c % 18446744073709551616 := by rw [IntKind.wrap_u64]
  rw [e, Int.tmod_eq_emod_of_nonneg (by omega)]
  have a := Int.emod_nonneg (c % 18446744073709551616) (show ((L : Int) + 1) ≠ 0 by omega)
  have b := Int.emod_lt_of_pos (c % 18446744073709551616) (show (0 : Int) < (L : Int) + 1 by omega)
  revert a b
  generalize c % 18446744073709551616 % ((L : Int) + 1) = r
  intro a b
  unfold wrap64
  omega

set_option maxRecDepth 100000 in
set_option maxHeartbeats 8000000 in
theorem pieces_walk (n : Int) (a0 : Option Addr) (len0 cap0 : Nat) (zs : List Int) (a1 : Option Addr) (len1 cap1 : Nat) (cs : List Int) (w : World) (h0 : -9223372036854775808 ≤ n) (h1 : n ≤ 9223372036854775807)
    (hi0 : Fr.IsInts .u8 w a0 len0 cap0 zs) (hi1 : Fr.IsInts .i64 w a1 len1 cap1 cs) :
    Calls Try.prog 11 #[.int .i64 n, .slice a0 len0 cap0, .slice a1 len1 cap1] w fun e w' => e = .returned (.bool true) ∧ Below w.heap.size w w' := by
  have hz0 := hi0.1
  subst hz0
  have hm0 : zs.length ≤ 9223372036854775807 := by have a := hi0.2.1; have b := hi0.2.2.1; unfold maxLen at b; omega
  have CO := Lib.hid (com_of hi0)
  obtain ⟨hz1, hlc, hcm, hwf, hcell⟩ := hi1
  have hlm : len1 ≤ 9223372036854775807 := by unfold maxLen at hcm; omega
  have HZ := Lib.hid hz1
  have HW := Lib.hid hwf
  have HX := Lib.hid hcell
  clear hz1 hcell hwf hlc hcm hi0
  obtain ⟨m0, m1⟩ := mostOf_range n
  go_enter Try.func11, Try.ntmps11
  go_wp2_with fail
  refine (alive05 _).mono ?_
  rintro e w1 ⟨rfl, hb⟩
  have B1 := Lib.hid hb
  clear hb
  by_cases hl0 : 2000 < zs.length
  · go_wp2_with fail
    refine (alive05 _).mono ?_
    rintro e w3 ⟨rfl, hb⟩
    have B3 := below_step B1.out hb
    clear hb
    go_wp2_with fail
    go_ret
    exact ⟨rfl, B3⟩
  by_cases hl1 : 100 < len1
  · go_wp2_with fail
    refine (alive05 _).mono ?_
    rintro e w3 ⟨rfl, hb⟩
    have B3 := below_step B1.out hb
    clear hb
    go_wp2_with fail
    go_ret
    exact ⟨rfl, B3⟩
  go_wp2_with fail
  refine (most_walk n _ h0 h1).mono ?_
  rintro e v1 ⟨rfl, rfl⟩
  go_wp2_with fail
  refine (dnew_ok (mostOf n) _ m0 (by omega)).mono ?_
  rintro e w2 ⟨p, rfl, hr, hb, hp, hp2⟩
  have RP := Lib.hid hr
  have B2 := Lib.hid (below_step B1.out hb)
  have hwp : w.heap.size ≤ p := by have := B1.out.size; omega
  clear hr hb B1
  go_wp2_with fail
  refine (most_walk n _ h0 h1).mono ?_
  rintro e v1 ⟨rfl, rfl⟩
  revert m0 m1 RP
  generalize mostOf n = m
  intro m0 m1 RP
  go_wp2_with fail
  refine (dnew_ok m _ m0 (by omega)).mono ?_
  rintro e w3 ⟨q, rfl, hr, hb, hq, hq2⟩
  have RQ := Lib.hid hr
  have B3 := Lib.hid (below_step B2.out hb)
  have RP3 := Lib.hid (RP.out.below hb)
  have hwq : w.heap.size ≤ q := by have := B2.out.size; omega
  have hpq : p ≠ q := by omega
  clear hr hb B2 RP hp hq
  go_wp2_with fail
  refine (feed_walk p (Df.new m) _ _ RP3.out _ _ zs (CO.out.src B3.out hwp (by simp [Value.ownBlock])) (Df.Ok.new m0 (by omega)) (by decide) (by omega)).mono ?_
  rintro e w4 ⟨nvp, lv, us, rfl, hf⟩
  have F := Lib.hid hf
  have B4 := Lib.hid (B3.out.trans (hf.below (B := w.heap.size) B3.out.size hwp (by simp [Value.ownBlock])))
  have RQ4 : Rest w4 q (Df.new m) (.slice none 0 0) := ⟨(hf.old q hq2 (Ne.symm hpq) (by simp [Value.ownBlock])).trans RQ.out.1, World.ownsRow_nil _ _ _ _⟩
  have P0 := Lib.hid (Pcs.start RQ4)
  have RQ4 := Lib.hid RQ4
  clear hf RQ RP3 B3
  have OKs := Lib.hid (Df.Ok.new m0 (by omega) : (Df.new m).Ok 0)
  go_wp2_with fail
  go_loopw [13, 14, 70] (fun gv rv i wr => ∃ (j : Nat) (pre post : List Int) (a' : Option Addr) (cap' : Nat) (nvq : Value) (vs : List Value), j ≤ len1 ∧ i = .int .i64 j ∧ zs = pre ++ post ∧ rv = .slice a' post.length cap' ∧ Com w a' cap' post ∧ Pcs w4 q (Df.new m) wr pre nvq gv vs) (fun _ _ i _ => 101 - (intOf i).toNat)
  case atStart => exact ⟨0, [], zs, a0, cap0, _, _, Nat.zero_le _, rfl, rfl, rfl, CO.out, P0.out⟩
  case round =>
    obtain ⟨j, pre, post, a', cap', nvq, vs, hj, rfl, hzs, rfl, hco, hpc⟩ := hrel
    have PC := Lib.hid hpc
    have CM := Lib.hid hco
    have B5 : Below w.heap.size w wr := B4.out.trans ⟨hpc.kep.os, hpc.kep.tape, hpc.kep.output, hpc.kep.size, fun k hk => hpc.kep.block k (by have := B4.out.size; omega) (by omega)⟩
    have B5 := Lib.hid B5
    have hpl : post.length ≤ 2000 := by have := congrArg List.length hzs; rw [List.length_append] at this; omega
    have hpr : pre.length ≤ 2000 := by have := congrArg List.length hzs; rw [List.length_append] at this; omega
    have HZS := Lib.hid hzs
    clear hpc hco P0 hzs
    by_cases hjL : j < len1
    · obtain ⟨b, o, rfl, hbw, hx⟩ := HX.out (by omega)
      have hx0 := hx j hjL
      have hc0 : wr.cell? ⟨b, o + j, none⟩ = some (.int .i64 (cs.getD j 0)) := by rw [B5.out.cell (p := ⟨b, o + j, none⟩) hbw]; exact hx0
      have hcb := bounds_i64 (HW.out (cs.getD j 0) (by
        rw [List.getD_eq_getElem?_getD, List.getElem?_eq_getElem (by rw [HZ.out]; exact hjL)]
        exact List.getElem_mem _))
      clear hx hx0
      revert hc0 hcb
      generalize cs.getD j 0 = c
      intro hc0 hcb
      clear hcb
      obtain ⟨hE0, hE1⟩ := cut_range c post.length (by omega)
      obtain ⟨x, y, hxy, hE⟩ := parted post _ hE0 hE1
      clear hE0 hE1
      have hL : post.length = x.length + y.length := by rw [hxy, List.length_append]
      have hroom := CM.out.room
      have hx1 : x.length ≤ cap' := by omega
      have hx2 : x.length ≤ post.length := by omega
      have hxe : (0 : Int) ≤ (x.length : Int) := by omega
      have HXY := Lib.hid hxy
      have HL := Lib.hid hL
      clear hxy hL hroom
      go_wp2_with fail
      rw [hE]
      have hvl : vs.length ≤ 2000 := by rw [PC.out.each.len]; exact Nat.le_trans (Df.pieces_length _ _) hpr
      have CXY : Com w a' cap' (x ++ y) := by rw [← HXY.out]; exact CM.out
      have nqw : ∀ k, nvq.ownBlock = some k → w.heap.size ≤ k := fun k e => Nat.le_trans B4.out.size (PC.out.nq k e)
      refine (feed_walk q ((Df.new m).run pre) nvq wr PC.out.rest _ _ x (CXY.front.src B5.out hwq nqw) (OKs.out.run pre) (by omega) (by omega)).mono ?_
      rintro e w5 ⟨nv', lv5, us5, rfl, hf⟩
      have F5 := Lib.hid hf
      have hul : us5.length ≤ 2000 := by rw [hf.each.len]; exact Nat.le_trans (Df.pieces_length _ _) (by omega)
      have hw45 : w4.heap.size ≤ w5.heap.size := Nat.le_trans PC.out.kep.size hf.size
      have CXY := Lib.hid CXY
      clear hf nqw hc0
      go_wp2_with (refine wpList_append_rows _ rfl _ _ rfl rfl w4.heap.size wr.heap.size vs.length us5.length _ lv5 vs us5 rfl (PC.out.got5 F5.out) rfl F5.out.found F5.out.one (by omega) hw45 ?_; intro gv' w6 hown hg; have PM := Lib.hid (PC.out.more F5.out hown hg))
      go_roundw
      case rel =>
        have hyl : post.length - x.length = y.length := by rw [HL.out]; omega
        exact ⟨j + 1, pre ++ x, y, if cap' = x.length then a' else a'.map (·.add x.length), cap' - x.length, nv', vs ++ us5, by omega, by go_num, by rw [HZS.out, HXY.out, List.append_assoc], by rw [← hyl], CXY.out.back (fun h => if_neg h) rfl, PM.out⟩
      case measure => simp [intOf]; omega
    · have hvl : vs.length ≤ 2000 := by rw [PC.out.each.len]; exact Nat.le_trans (Df.pieces_length _ _) hpr
      have nqw : ∀ k, nvq.ownBlock = some k → w.heap.size ≤ k := fun k e => Nat.le_trans B4.out.size (PC.out.nq k e)
      have SRC := Lib.hid (CM.out.src B5.out hwq nqw)
      clear nqw
      go_wp2_with fail
      refine (feed_walk q ((Df.new m).run pre) nvq wr PC.out.rest _ _ post SRC.out (OKs.out.run pre) (by omega) (by omega)).mono ?_
      rintro e w5 ⟨nv', lv5, us5, rfl, hf⟩
      have F5 := Lib.hid hf
      have hul : us5.length ≤ 2000 := by rw [hf.each.len]; exact Nat.le_trans (Df.pieces_length _ _) (by omega)
      have hw45 : w4.heap.size ≤ w5.heap.size := Nat.le_trans PC.out.kep.size hf.size
      clear hf
      have PE := Lib.hid HZS.out.symm
      go_wp2_with (refine wpList_append_rows _ rfl _ _ rfl rfl w4.heap.size wr.heap.size vs.length us5.length _ lv5 vs us5 rfl (PC.out.got5 F5.out) rfl F5.out.found F5.out.one (by omega) hw45 ?_; intro gv' w6 hown hg; have PM := Lib.hid (PE.out ▸ PC.out.more F5.out hown hg); have LT := Lib.hid (F.out.later RQ4.out hpq PM.out.kep); have B6 := Lib.hid (below_step2 B4.out hwq PM.out.kep))
      have OZ := OKs.out.run zs
      have hln := Int.le_trans OZ.len OZ.m1
      have hpz : ((Df.new m).pieces zs).length ≤ 68719476736 := Nat.le_trans (Df.pieces_length _ _) (by omega)
      refine (same_walk _ _ _ _ _ _ _ _ _ _ PM.out.got LT.out.2.1 PM.out.each LT.out.2.2 hpz).mono ?_
      rintro e w7 ⟨rfl, hb⟩
      have B7 := Lib.hid (below_step B6.out hb)
      have RQ := PM.out.rest.below hb
      have RP := LT.out.1.below hb
      have CQ := Lib.hid (cells_of RQ.1)
      have CP := Lib.hid (cells_of RP.1)
      have NQ := Lib.hid (own_slice RQ.2)
      have NP := Lib.hid (own_slice RP.2)
      have HL := Lib.hid hln
      clear hb RQ RP OZ hln hpz PM LT B6 PC F F5 CM CO
      go_wp2_with fail
      refine (held_walk _ _ _ _ _ CP.out NP.out HL.out).mono ?_
      rintro e w8 ⟨rfl, rfl⟩
      go_wp2_with fail
      refine (held_walk _ _ _ _ _ CQ.out NQ.out HL.out).mono ?_
      rintro e w8 ⟨rfl, rfl⟩
      go_wp2_with fail
      refine (junk_walk _ _ _ _ _ CP.out).mono ?_
      rintro e w8 ⟨rfl, rfl⟩
      go_wp2_with fail
      refine (junk_walk _ _ _ _ _ CQ.out).mono ?_
      rintro e w8 ⟨rfl, rfl⟩
      go_wp2_with fail
      refine (over_walk _ _ _ _ _ CP.out).mono ?_
      rintro e w8 ⟨rfl, rfl⟩
      go_wp2_with fail
      refine (over_walk _ _ _ _ _ CQ.out).mono ?_
      rintro e w8 ⟨rfl, rfl⟩
      go_wp2_with fail
      refine (broken_walk _ _ _ _ _ CP.out).mono ?_
      rintro e w8 ⟨rfl, rfl⟩
      go_wp2_with fail
      refine (broken_walk _ _ _ _ _ CQ.out).mono ?_
      rintro e w8 ⟨rfl, rfl⟩
      go_wp2_with fail
      go_ret
      exact ⟨rfl, B7.out⟩
end Go.Proofs.Ytmollbnhndjjeaa
