/- The walk of layer 5's example. -/
import Derived.Test.YtmollbnhndjjeaaBe
namespace Go.Proofs.Ytmollbnhndjjeaa
open Go.RowKit

theorem Rest.below {w w' : World} {p : Nat} {s : Df} {nv : Value} (h : Rest w p s nv) (k : Below w.heap.size w w') : Rest w' p s nv :=
  ⟨(k.block p (blk_lt h.1)).trans h.1, own_stay h.2 (fun i e => k.block i (h.2.lt i e).2)⟩
theorem Rest.lt {w : World} {p : Nat} {s : Df} {nv : Value} (h : Rest w p s nv) : p < w.heap.size := blk_lt h.1

def exBytes : List Int := [65, 11, 66, 28, 13, 11, 67, 11, 68]
theorem ex_run : (Df.new 3).run exBytes = ⟨3, true, false, [68], 1, 0, 1⟩ := rfl
theorem ex_pieces : (Df.new 3).pieces exBytes = [[66]] := rfl
theorem Fed.below {W w : World} {p : Nat} {o : Option Nat} {s : Df} {nv lv : Value} {vs : List Value} {fs : List (List Int)} (h : Fed W w p o s nv lv vs fs) {B : Nat} (hB : B ≤ W.heap.size) (hp : B ≤ p) (ho : ∀ k, o = some k → B ≤ k) : Below B W w :=
  ⟨h.os, h.tape, h.output, h.size, fun k hk => h.old k (by omega) (by omega) (fun e => by have := ho k e.symm; omega)⟩

theorem ex_src (w : World) (p : Nat) (hp : p < w.heap.size) : Src (w.alloc (.cells #[.int .u8 65, .int .u8 11, .int .u8 66, .int .u8 28, .int .u8 13, .int .u8 11, .int .u8 67, .int .u8 11, .int .u8 68] 5)) p none (some ⟨w.heap.size, 0, none⟩) exBytes := by
  refine ⟨by unfold exBytes Byt; decide, fun _ => ⟨w.heap.size, 0, rfl, by simp, by omega, by simp, fun i hi => ?_⟩⟩
  rw [World.cell?_alloc_new]
  have : i < 9 := hi
  match i with
  | 0 | 1 | 2 | 3 | 4 | 5 | 6 | 7 | 8 => rfl
  | i + 9 => omega

set_option maxRecDepth 100000 in
set_option maxHeartbeats 4000000 in
theorem alive05 (w : World) : Calls Try.prog 42 #[] w fun e w' => e = .returned (.bool true) ∧ Below w.heap.size w w' := by
  go_enter Try.func42, Try.ntmps42
  go_wp2_with fail
  refine (dnew_ok 3 w (by decide) (by decide)).mono ?_
  rintro e w1 ⟨p, rfl, hr, hb, hp, hp2⟩
  have R := Lib.hid hr
  have B1 := Lib.hid hb
  clear hr hb
  have K := Lib.hid ((Below.refl w1.heap.size w1).alloc (Nat.le_refl _) (.cells #[.int .u8 65, .int .u8 11, .int .u8 66, .int .u8 28, .int .u8 13, .int .u8 11, .int .u8 67, .int .u8 11, .int .u8 68] 5))
  have SR := Lib.hid (ex_src w1 p hp2)
  go_wp2_with fail
  refine (feed_walk p (Df.new 3) (.slice none 0 0) _ (R.out.below K.out) _ 9 exBytes SR.out (Df.Ok.new (by decide) (by decide)) (by decide) (by decide)).mono ?_
  rintro e w2 ⟨nv, lv, vs, rfl, hf⟩
  have B2 := hf.below (B := w.heap.size) (by have := B1.out.size; simp; omega) hp (by simp [Value.ownBlock])
  have BW := Lib.hid ((B1.out.alloc B1.out.size _).trans B2)
  clear B2
  rw [ex_run, ex_pieces] at hf
  have hl := hf.each.len
  obtain ⟨v, rfl⟩ : ∃ v, vs = [v] := by
    match vs, hl with
    | [v], _ => exact ⟨v, rfl⟩
  have hne := hf.each.1
  obtain ⟨a, cap, rfl, hcv⟩ := elem_conv hne
  have hcv := hcv w2 rfl
  have hfo := hf.found
  obtain ⟨g, cp, rfl, -, -⟩ := hfo.form (by simp)
  have hc0 : w2.cell? ⟨g, 0, none⟩ = some (.slice a [66].length cap) := hfo.cells (g := g) rfl 0 _ rfl
  have C := Lib.hid (cells_of hf.rest.1)
  have HN := Lib.hid (own_slice hf.rest.2)
  have hst : strOfNums [66] = ⟨#[66]⟩ := rfl
  rw [hst] at hcv
  clear hf hfo hne hst hl R SR K
  simp only [List.length_cons, List.length_nil, Nat.zero_add] at hcv hc0
  go_wp2_with (first | (go_at_call 48; refine (junk_walk _ _ _ _ _ C.out).mono ?_; rintro e w3 ⟨rfl, rfl⟩) | (go_at_call 50; refine (broken_walk _ _ _ _ _ C.out).mono ?_; rintro e w3 ⟨rfl, rfl⟩) | (go_at_call 49; refine (over_walk _ _ _ _ _ C.out).mono ?_; rintro e w3 ⟨rfl, rfl⟩) | (go_at_call 47; refine (held_walk _ _ _ _ _ C.out HN.out (by decide)).mono ?_; rintro e w3 ⟨rfl, rfl⟩))
  go_ret
  exact ⟨rfl, BW.out⟩
end Go.Proofs.Ytmollbnhndjjeaa
