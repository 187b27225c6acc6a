/- DeframeJunk: the walk. -/
import Derived.Test.YtmollbnhndjjeaaBg
namespace Go.Proofs.Ytmollbnhndjjeaa
open Go.RowKit

/-- A deframer that met junk alone. -/
def Df.junky (m k : Int) : Df := { Df.new m with junk := k }
theorem junky_run {m k c : Int} (h : c ≠ 11) : (Df.junky m k).run [c] = Df.junky m (k + 1) := by
  show (Df.junky m k).step c = _
  unfold Df.step Df.junky Df.new Df.skip
  rw [if_neg (by simp), if_neg h]
theorem junky_pieces (m k c : Int) : (Df.junky m k).pieces [c] = [] := by
  show (Df.junky m k).piece c ++ [] = []
  unfold Df.piece Df.junky Df.new
  rw [if_neg (by simp)]; rfl
theorem junky_ok {m k : Int} (h0 : 1 ≤ m) (h1 : m ≤ 65536) (k0 : 0 ≤ k) : (Df.junky m k).Ok k :=
  ⟨h0, h1, by show ((0 : Nat) : Int) ≤ m; omega, k0, Int.le_refl _, Int.le_refl _, k0, Int.le_refl _, k0⟩
theorem held_junky (p : Nat) (m k : Int) (nv fv : Value) (w : World) (h : DfCells w p (Df.junky m k) nv fv) (hn : ∃ a cap, nv = .slice a 0 cap) : Calls Try.prog 47 #[.pointer (some ⟨p, 0, none⟩)] w fun e w' => e = .returned (.int .i64 0) ∧ w = w' :=
  held_walk p (Df.junky m k) nv fv w h hn (by show ((0 : Nat) : Int) ≤ 65536; decide)
theorem junk_junky (p : Nat) (m k : Int) (nv fv : Value) (w : World) (h : DfCells w p (Df.junky m k) nv fv) : Calls Try.prog 48 #[.pointer (some ⟨p, 0, none⟩)] w fun e w' => e = .returned (.int .i64 k) ∧ w = w' :=
  junk_walk p (Df.junky m k) nv fv w h
theorem over_junky (p : Nat) (m k : Int) (nv fv : Value) (w : World) (h : DfCells w p (Df.junky m k) nv fv) : Calls Try.prog 49 #[.pointer (some ⟨p, 0, none⟩)] w fun e w' => e = .returned (.int .i64 0) ∧ w = w' :=
  over_walk p (Df.junky m k) nv fv w h
theorem broken_junky (p : Nat) (m k : Int) (nv fv : Value) (w : World) (h : DfCells w p (Df.junky m k) nv fv) : Calls Try.prog 50 #[.pointer (some ⟨p, 0, none⟩)] w fun e w' => e = .returned (.int .i64 0) ∧ w = w' :=
  broken_walk p (Df.junky m k) nv fv w h

/-- A deframer whose blocks all lie from B on. -/
structure Own (B : Nat) (w : World) (p : Nat) (s : Df) (nv : Value) : Prop where
  rest : Rest w p s nv
  hp : B ≤ p
  hn : ∀ k, nv.ownBlock = some k → B ≤ k
theorem Fed.own {B : Nat} {W w : World} {p : Nat} {s s0 : Df} {nv nv0 lv : Value} {vs : List Value} {fs : List (List Int)} (h : Fed W w p nv0.ownBlock s nv lv vs fs) (h0 : Own B W p s0 nv0) (hB : B ≤ W.heap.size) : Own B w p s nv :=
  ⟨h.rest, h0.hp, fun k e => by
    rcases h.nowB k e with e' | e'
    · exact h0.hn k e'.symm
    · omega⟩
theorem Own.below {B : Nat} {w w' : World} {p : Nat} {s : Df} {nv : Value} (h : Own B w p s nv) (k : Below w.heap.size w w') : Own B w' p s nv := ⟨h.rest.below k, h.hp, h.hn⟩
theorem Fed.frame {B : Nat} {W w : World} {p : Nat} {s s0 : Df} {nv nv0 lv : Value} {vs : List Value} {fs : List (List Int)} (h : Fed W w p nv0.ownBlock s nv lv vs fs) (h0 : Own B W p s0 nv0) (hB : B ≤ W.heap.size) : Below B W w :=
  h.below hB h0.hp h0.hn

/-- One byte, in a block of its own. -/
theorem src_one {w : World} {p : Nat} {s : Df} {nv : Value} (h : Rest w p s nv) {c : Int} (hc : Byt c) : Src (w.alloc (.cells #[.int .u8 c] 5)) p nv.ownBlock (some ⟨w.heap.size, 0, none⟩) [c] := by
  refine ⟨by simpa using hc, fun _ => ⟨w.heap.size, 0, rfl, by simp, by have := h.lt; omega, fun e => by have := (h.2.lt _ e.symm).2; omega, fun i hi => ?_⟩⟩
  have : i = 0 := by simp at hi; omega
  subst this
  rw [World.cell?_alloc_new]; rfl

set_option maxRecDepth 100000 in
set_option maxHeartbeats 4000000 in
theorem djunk_walk (n : Int) (a : Option Addr) (len cap : Nat) (zs : List Int) (w : World) (h0 : -9223372036854775808 ≤ n) (h1 : n ≤ 9223372036854775807) (hi : Fr.IsInts .u8 w a len cap zs) :
    Calls Try.prog 12 #[.int .i64 n, .slice a len cap] w fun e w' => e = .returned (.bool true) ∧ Below w.heap.size w w' := by
  obtain ⟨hz, hlc, hcm, hwf, hcell⟩ := hi
  have hlm : len ≤ 9223372036854775807 := by unfold maxLen at hcm; omega
  have HZ := Lib.hid hz
  have HW := Lib.hid hwf
  have HX := Lib.hid hcell
  clear hz hcell hwf hlc hcm
  obtain ⟨m0, m1⟩ := mostOf_range n
  go_enter Try.func12, Try.ntmps12
  go_wp2_with fail
  refine (most_walk n _ h0 h1).mono ?_
  rintro e w0 ⟨rfl, rfl⟩
  revert m0 m1
  generalize mostOf n = m
  intro m0 m1
  go_wp2_with fail
  refine (dnew_ok m _ m0 (by omega)).mono ?_
  rintro e w1 ⟨p, rfl, hr, hb, hp, hp2⟩
  have O1 := Lib.hid (show Own w.heap.size w1 p (Df.new m) (.slice none 0 0) from ⟨hr, hp, by simp [Value.ownBlock]⟩)
  have B1 := Lib.hid hb
  clear hr hb
  go_wp2_with fail
  refine (alive05 _).mono ?_
  rintro e w2 ⟨rfl, hb⟩
  have O2 := Lib.hid (O1.out.below hb)
  have B2 := Lib.hid (below_step B1.out hb)
  clear hb O1 B1
  by_cases hl : 2000 < len
  · go_wp2_with fail
    refine (alive05 _).mono ?_
    rintro e w3 ⟨rfl, hb⟩
    have B3 := below_step B2.out hb
    clear hb
    go_wp2_with fail
    go_ret
    exact ⟨rfl, B3⟩
  · go_wp2_with fail
    go_loopw [7, 36] (fun kv i wr => ∃ (j : Nat) (k : Int) (nv : Value), j ≤ len ∧ i = .int .i64 j ∧ kv = .int .i64 k ∧ 0 ≤ k ∧ k ≤ j ∧ Below w.heap.size w wr ∧ Own w.heap.size wr p (Df.junky m k) nv) (fun _ i _ => 2001 - (intOf i).toNat)
    case atStart => exact ⟨0, 0, _, by omega, rfl, rfl, by omega, by omega, B2.out, O2.out⟩
    case round =>
      obtain ⟨j, k, nv, hj, rfl, rfl, k0, k1, hbr, hor⟩ := hrel
      clear O2 B2
      have OR := Lib.hid hor
      have BR := Lib.hid hbr
      by_cases hjL : j < len
      · obtain ⟨b, o, rfl, hbw, hx⟩ := HX.out (by omega)
        have hx0 := hx j hjL
        have hc0 : wr.cell? ⟨b, o + j, none⟩ = some (.int .u8 (zs.getD j 0)) := by rw [hbr.cell (p := ⟨b, o + j, none⟩) hbw]; exact hx0
        have hby0 := bounds_u8 (HW.out (zs.getD j 0) (by
          rw [List.getD_eq_getElem?_getD, List.getElem?_eq_getElem (by rw [HZ.out]; exact hjL)]
          exact List.getElem_mem _))
        clear hx hx0 hor hbr
        revert hc0 hby0
        generalize zs.getD j 0 = c
        intro hc0 hby0
        have BY := Lib.hid (show Byt c from ⟨by omega, by omega⟩)
        by_cases e11 : c = 11
        · subst e11
          go_wp2_with fail
          go_roundw
          case rel => exact ⟨j + 1, k, nv, by omega, by go_num, rfl, k0, by omega, BR.out, OR.out⟩
          case measure => simp [intOf]; omega
        · have BA := Lib.hid (BR.out.alloc BR.out.size (.cells #[.int .u8 c] 5))
          have OA := Lib.hid (OR.out.below ((Below.refl _ _).alloc (Nat.le_refl _) (.cells #[.int .u8 c] 5)))
          have SA := Lib.hid (src_one OR.out.rest BY.out)
          have hsA := BA.out.size
          clear OR BR
          go_wp2_with fail
          refine (feed_walk p (Df.junky m k) nv _ OA.out.rest _ 1 [c] SA.out (junky_ok m0 (by omega) k0) (by omega) (by simp)).mono ?_
          rintro e w3 ⟨nv', lv, vs, rfl, hf⟩
          rw [junky_run e11, junky_pieces] at hf
          have B3 := Lib.hid (BA.out.trans (hf.frame OA.out hsA))
          have O3 := Lib.hid (hf.own OA.out hsA)
          have hvl : vs = [] := List.eq_nil_of_length_eq_zero hf.each.len
          subst hvl
          obtain ⟨a3, c3, rfl⟩ := own_slice hf.found
          have C := Lib.hid (cells_of hf.rest.1)
          have HN := Lib.hid (own_slice hf.rest.2)
          clear hf BA OA SA hsA hc0
          go_wp2_with (first | (go_at_call 47; refine (held_junky _ _ _ _ _ _ C.out HN.out).mono ?_; rintro e w4 ⟨rfl, rfl⟩) | (go_at_call 48; refine (junk_junky _ _ _ _ _ _ C.out).mono ?_; rintro e w4 ⟨rfl, rfl⟩))
          go_roundw
          case rel => exact ⟨j + 1, k + 1, nv', by omega, by go_num, rfl, by omega, by omega, B3.out, O3.out⟩
          case measure => simp [intOf]; omega
      · have C := Lib.hid (cells_of hor.rest.1)
        go_wp2_with (first | (go_at_call 49; refine (over_junky _ _ _ _ _ _ C.out).mono ?_; rintro e w4 ⟨rfl, rfl⟩) | (go_at_call 50; refine (broken_junky _ _ _ _ _ _ C.out).mono ?_; rintro e w4 ⟨rfl, rfl⟩))
        go_ret
        exact ⟨rfl, BR.out⟩
end Go.Proofs.Ytmollbnhndjjeaa
