/- The walk of a deframer's Feed. -/
import Derived.Test.YtmollbnhndjjeaaBc
namespace Go.Proofs.Ytmollbnhndjjeaa
open Go.RowKit

theorem Df.pieces_length : ∀ (l : List Int) (s : Df), (s.pieces l).length ≤ l.length
  | [], _ => Nat.le_refl _
  | c :: l, s => by
    have h := Df.pieces_length l (s.step c)
    have h1 : (s.piece c).length ≤ 1 := by unfold Df.piece; split <;> simp
    show (s.piece c ++ (s.step c).pieces l).length ≤ (c :: l).length
    rw [List.length_append, List.length_cons]
    omega
theorem take_more (l : List Int) (n : Nat) (h : n < l.length) : l.take (n + 1) = l.take n ++ [l.getD n 0] := by
  rw [List.take_add_one, List.getElem?_eq_getElem h, List.getD_eq_getElem?_getD, List.getElem?_eq_getElem h]
  rfl
theorem run_more (s : Df) (l : List Int) (n : Nat) (h : n < l.length) : s.run (l.take (n + 1)) = (s.run (l.take n)).step (l.getD n 0) := by
  rw [take_more l n h, Df.run_append]; rfl
theorem pieces_more (s : Df) (l : List Int) (n : Nat) (h : n < l.length) : s.pieces (l.take (n + 1)) = s.pieces (l.take n) ++ (s.run (l.take n)).piece (l.getD n 0) := by
  rw [take_more l n h, Df.pieces_append]
  show _ ++ (_ ++ []) = _
  rw [List.append_nil]

/-- Bytes that lie apart from a deframer (its block p, its row o). -/
structure Src (w : World) (p : Nat) (o : Option Nat) (a : Option Addr) (zs : List Int) : Prop where
  byt : ∀ z ∈ zs, Byt z
  cell : 0 < zs.length → ∃ b f, a = some ⟨b, f, none⟩ ∧ b < w.heap.size ∧ b ≠ p ∧ some b ≠ o ∧ ∀ i, i < zs.length → w.cell? ⟨b, f + i, none⟩ = some (.int .u8 (zs.getD i 0))

/-- A deframer at rest (nothing that was found is held), in the world w. -/
def Rest (w : World) (p : Nat) (s : Df) (nv : Value) : Prop :=
  w.heap[p]? = some (blk p s nv (.slice none 0 0)) ∧ w.ownsRow 0 5 1 nv s.now.length (enc s.now)
theorem Rest.dn {w : World} {p : Nat} {s : Df} {nv : Value} (h : Rest w p s nv) : Dn w w p nv.ownBlock s nv (.slice none 0 0) [] [] :=
  ⟨rfl, rfl, rfl, Nat.le_refl _, fun _ _ _ _ => rfl, h.1, h.2, fun _ e => .inl e.symm, World.ownsRow_nil _ _ _ _, trivial, by simp, by simp⟩

/-- What a Feed leaves: the deframer at rest; the slices found, of new blocks of their own. -/
structure Fed (W w : World) (p : Nat) (o : Option Nat) (s : Df) (nv lv : Value) (vs : List Value) (fs : List (List Int)) : Prop where
  os : w.os = W.os
  tape : w.tape = W.tape
  output : w.output = W.output
  size : W.heap.size ≤ w.heap.size
  old : ∀ k, k < W.heap.size → k ≠ p → some k ≠ o → w.heap[k]? = W.heap[k]?
  rest : Rest w p s nv
  nowB : ∀ k, nv.ownBlock = some k → some k = o ∨ W.heap.size ≤ k
  found : w.ownsRow W.heap.size 53 1 lv vs.length vs
  each : Each W.heap.size w vs fs
  part : ∀ v ∈ vs, ∀ k, v.ownBlock = some k → nv.ownBlock ≠ some k
  one : ∀ v ∈ vs, v.oneCell' = true

theorem Dn.give {W w w' : World} {p : Nat} {o : Option Nat} {s : Df} {nv fv : Value} {vs : List Value} {fs : List (List Int)} (h : Dn W w p o s nv fv vs fs) (k : Kep p w w') (hh : w'.heap[p]? = some (blk p s nv (.slice none 0 0))) : Fed W w' p o s nv fv vs fs := by
  have hs := h.size
  refine ⟨k.os.trans h.os, k.tape.trans h.tape, k.output.trans h.output, Nat.le_trans h.size k.size, ?_, ⟨hh, ?_⟩, h.nowB, ?_, ?_, h.part, h.one⟩
  · intro i hi hp ho
    exact (k.block i (by omega) hp).trans (h.old i hi hp ho)
  · exact own_stay h.now (fun i e => k.block i (h.now.lt i e).2 (fun e' => own_ne h.now h.here (by decide) (e' ▸ e)))
  · exact own_stay h.found (fun i e => k.block i (h.found.lt i e).2 (fun e' => own_ne h.found h.here (by decide) (e' ▸ e)))
  · refine h.each.stay (fun v hv i e hB hi => k.block i hi (fun e' => ?_))
    obtain ⟨_, _, cs, fr, hc⟩ := (h.each.blocks v hv).1 i e
    rw [e', h.here] at hc
    simp [blk] at hc

theorem DnE.cell {W w : World} {p : Nat} {o : Option Nat} {s : Df} {fs : List (List Int)} (h : DnE W w p o s fs) {b f : Nat} {v : Value} (hb : b < W.heap.size) (h1 : b ≠ p) (h2 : some b ≠ o) (hc : W.cell? ⟨b, f, none⟩ = some v) : w.cell? ⟨b, f, none⟩ = some v := by
  obtain ⟨_, _, _, h⟩ := h
  exact (World.cell?_of_block (w := W) (h.old b hb h1 h2)).trans hc

set_option maxRecDepth 100000 in
set_option maxHeartbeats 2000000 in
theorem feed_walk (p : Nat) (s : Df) (nv : Value) (W : World) (h : Rest W p s nv) (a : Option Addr) (cap : Nat) (zs : List Int) (hsrc : Src W p nv.ownBlock a zs) {N : Int} (ho : s.Ok N) (hN : N ≤ 68719476736) (hz : zs.length ≤ 68719476736) :
    Calls Try.prog 45 #[.pointer (some ⟨p, 0, none⟩), .slice a zs.length cap] W fun e w' => ∃ nv' lv vs, e = .returned (.tuple #[lv, .int .i64 0]) ∧ Fed W w' p nv.ownBlock (s.run zs) nv' lv vs (s.pieces zs) := by
  have H0 := Lib.hid (show DnE W W p nv.ownBlock s [] from ⟨_, _, _, h.dn⟩)
  have HS := Lib.hid hsrc
  have OK := Lib.hid ho
  clear h hsrc ho
  go_enter Try.func45, Try.ntmps45
  go_wp2_with fail
  go_loopw [13] (fun i wr => ∃ n : Nat, n ≤ zs.length ∧ i = .int .i64 n ∧ DnE W wr p nv.ownBlock (s.run (zs.take n)) (s.pieces (zs.take n))) (fun i _ => zs.length + 1 - (intOf i).toNat)
  case atStart => exact ⟨0, Nat.zero_le _, rfl, H0.out⟩
  case round =>
    obtain ⟨n, hn, rfl, hr⟩ := hrel
    have HR := Lib.hid hr
    by_cases hnL : n < zs.length
    · obtain ⟨b, f, rfl, hbw, hbp, hbo, hx⟩ := HS.out.cell (by omega)
      have hx0 := HR.out.cell hbw hbp hbo (hx n hnL)
      have hby : Byt (zs.getD n 0) := HS.out.byt _ (by rw [List.getD_eq_getElem?_getD, List.getElem?_eq_getElem hnL]; exact List.getElem_mem _)
      have OKn := Lib.hid (OK.out.run (zs.take n))
      have hlen : ((zs.take n).length : Int) ≤ 68719476736 := by simp; omega
      have hpl := Df.pieces_length (zs.take n) s
      have htl : (zs.take n).length ≤ n := by simp; omega
      have hpl2 : (s.pieces (zs.take n)).length ≤ 1099511627776 := by omega
      have RM := Lib.hid (run_more s zs n hnL)
      have PM := Lib.hid (pieces_more s zs n hnL)
      obtain ⟨_, _, _, hd⟩ := hr
      have c1 := hd.cells.c1
      clear hd hx hpl htl
      revert hx0 hby HR OKn hpl2 RM PM c1
      generalize zs.getD n 0 = c
      generalize s.run (zs.take n) = t
      generalize s.pieces (zs.take n) = fs
      intro HR hx0 hby OKn hpl2 RM PM c1
      cases hi : t.inn with
      | true =>
        replace c1 : wr.cell? ⟨p, 1, none⟩ = some (.func (.func 72) #[.pointer (some ⟨p, 0, none⟩)] #[]) := by rw [hi] at c1; exact c1
        go_wp2_with (go_at_call 72; refine (take_walk _ _ _ _ _ _ _ HR.out hby OKn.out (by omega) hi hpl2).mono ?_; rintro e w1 ⟨rfl, hd⟩)
        go_roundw
        case rel => exact ⟨n + 1, hnL, by go_num, by rw [RM.out, PM.out]; unfold Df.step; rw [if_pos hi]; exact hd⟩
        case measure => simp [intOf]; omega
      | false =>
        replace c1 : wr.cell? ⟨p, 1, none⟩ = some (.func (.func 70) #[.pointer (some ⟨p, 0, none⟩)] #[]) := by rw [hi] at c1; exact c1
        go_wp2_with (go_at_call 70; refine (skip_walk _ _ _ _ _ _ _ HR.out hby OKn.out (by omega)).mono ?_; rintro e w1 ⟨rfl, hd⟩)
        go_roundw
        case rel =>
          have ep : t.piece c = [] := by unfold Df.piece; rw [if_neg (by rw [hi]; simp)]
          exact ⟨n + 1, hnL, by go_num, by rw [RM.out, PM.out, ep, List.append_nil]; unfold Df.step; rw [if_neg (by rw [hi]; decide)]; exact hd⟩
        case measure => simp [intOf]; omega
    · have e : n = zs.length := by omega
      subst e
      rw [List.take_length] at HR hr
      obtain ⟨nv', fv, vs, hd⟩ := hr
      clear HR
      have HD := Lib.hid hd
      obtain ⟨c0, c1, c2, c3, c4, c5, c6, c7, c8, fr⟩ := hd.cells
      clear hd
      go_wp2_with fail
      go_ret2
      exact ⟨_, _, _, rfl, HD.out.give (Kep.setCell _ _ _ _) (Joins.block_setCell HD.out.here _)⟩
end Go.Proofs.Ytmollbnhndjjeaa
