/- The walks of a deframer's lay, of bytes.Clone, and of take. -/
import Derived.Test.YtmollbnhndjjeaaBb
import Derived.Deep.DeepCutAuto
import Derived.Deep.RegionLaw
import Derived.Lib.SliceRun
namespace Go.Proofs.Ytmollbnhndjjeaa
open Go.RowKit

theorem info_of {e : TypeId} {z : Value} {n : Nat} (h : (Try.prog.info? e).map (fun i => (i.zero, i.size, i.bytes)) = some (some z, 1, n)) (hz : z.cells.size = 1) :
    ∃ i z, Try.prog.info? e = some i ∧ i.zero = some z ∧ i.size = 1 ∧ i.bytes = n ∧ z.cells.size = 1 := by
  obtain ⟨i, hi, hzz⟩ := Option.map_eq_some_iff.1 h
  simp only [Prod.mk.injEq] at hzz
  obtain ⟨h1, h2, h3⟩ := hzz
  exact ⟨i, z, hi, h1, h2, h3, hz⟩
theorem info5 : ∃ i z, Try.prog.info? 5 = some i ∧ i.zero = some z ∧ i.size = 1 ∧ i.bytes = 1 ∧ z.cells.size = 1 := info_of (z := .int .u8 0) (by kernel_rfl) rfl
theorem info53 : ∃ i z, Try.prog.info? 53 = some i ∧ i.zero = some z ∧ i.size = 1 ∧ i.bytes = 24 ∧ z.cells.size = 1 := info_of (z := .slice none 0 0) (by kernel_rfl) rfl

theorem enc_one (l : List Int) : ∀ u ∈ enc l, u.oneCell' = true := by
  intro u hu
  obtain ⟨x, _, rfl⟩ := List.mem_map.1 hu
  rfl

section
variable {W w w' : World} {p : Nat} {o : Option Nat} {s s' : Df} {nv fv : Value} {vs : List Value} {fs : List (List Int)}
/-- Behind an append to the bytes, ahead of the store: all but the bytes is as it was. -/
theorem Dn.laid (h : Dn W w p o s nv fv vs fs) (b : List Int) {g cap n : Nat} (hn : n = s.now.length + b.length)
    (hown : w'.ownsRow 0 5 1 (.slice (some ⟨g, 0, none⟩) n cap) n (enc s.now ++ enc b)) (hg : w.grownBy w' nv.ownBlock) (hat : nv.ownBlock = some g ∨ g = w.heap.size) :
    Dn W (w'.setCell ⟨p, 4, none⟩ (.slice (some ⟨g, 0, none⟩) n cap)) p o { s with now := s.now ++ b } (.slice (some ⟨g, 0, none⟩) n cap) fv vs fs := by
  have hs := h.size
  have hs' := hg.size
  have hp : w'.heap[p]? = some (blk p s nv fv) := (hg.block p (blk_lt h.here) (fun e => own_ne h.now h.here (by decide) e.symm)).trans h.here
  have hgp : g ≠ p := by
    rintro rfl
    rcases hat with e | e
    · exact own_ne h.now h.here (by decide) e
    · have := blk_lt h.here; omega
  have put : ∀ k, k ≠ p → (w'.setCell ⟨p, 4, none⟩ (.slice (some ⟨g, 0, none⟩) n cap)).heap[k]? = w'.heap[k]? := fun k hk => Below.heap_setCell _ _ _ _ hk
  refine ⟨hg.os.trans h.os, hg.tape.trans h.tape, hg.output.trans h.output, ?_, ?_, Joins.block_setCell hp _, ?_, ?_, ?_, ?_, ?_, h.one⟩
  · simp only [World.setCell, Array.size_modify]; omega
  · intro k hk hkp hko
    rw [put k hkp, hg.block k (by omega) (fun e => ?_)]
    · exact h.old k hk hkp hko
    · rcases h.nowB k e.symm with e' | e'
      · exact hko e'
      · omega
  · subst hn
    show World.ownsRow _ 0 5 1 _ (s.now ++ b).length (enc (s.now ++ b))
    rw [enc_append, List.length_append]
    exact own_stay hown (fun k e => put k (by simp [Value.ownBlock] at e; omega))
  · intro k e
    simp [Value.ownBlock] at e
    subst e
    rcases hat with e | e
    · exact h.nowB g e
    · right; omega
  · refine own_stay h.found (fun k e => ?_)
    have hne : k ≠ p := fun e' => own_ne h.found h.here (by decide) (e' ▸ e)
    rw [put k hne]
    refine hg.block k (h.found.lt k e).2 (fun e' => ?_)
    rcases h.found.2 with ⟨rfl, _⟩ | ⟨g', cap', cur', rfl, _, hg', _⟩
    · simp [Value.ownBlock] at e
    · simp [Value.ownBlock] at e
      subst e
      exact own_ne h.now hg' (by decide) e'.symm
  · refine h.each.stay (fun v hv k e hB hk => ?_)
    obtain ⟨_, _, cs, fr, hc⟩ := (h.each.blocks v hv).1 k e
    have hne : k ≠ p := by
      rintro rfl
      rw [h.here] at hc
      simp [blk] at hc
    rw [put k hne]
    exact hg.block k hk (fun e' => h.part v hv k e e'.symm)
  · intro v hv k e e'
    simp [Value.ownBlock] at e'
    subst e'
    rcases hat with e' | e'
    · exact h.part v hv g e e'
    · have := ((h.each.blocks v hv).1 g e).2.1
      omega
end

theorem grown_here {W w w' : World} {p : Nat} {o : Option Nat} {s : Df} {nv fv : Value} {vs : List Value} {fs : List (List Int)} (h : Dn W w p o s nv fv vs fs) (hg : w.grownBy w' nv.ownBlock) : w'.heap[p]? = some (blk p s nv fv) :=
  (hg.block p (blk_lt h.here) (fun e => own_ne h.now h.here (by decide) e.symm)).trans h.here

set_option maxHeartbeats 1000000 in
theorem lay_walk (W : World) (p : Nat) (o : Option Nat) (s : Df) (fs : List (List Int)) (w : World) (h : DnE W w p o s fs) (b : List Int) (g cp : Nat)
    (hb : ∀ j u, (enc b)[j]? = some u → w.cell? ((⟨g, 0, none⟩ : Addr).add j) = some u) (hb0 : 0 < b.length) (hb2 : b.length ≤ 2) {N : Int} (ho : s.Ok N) (hN : N ≤ 1099511627776) :
    Calls Try.prog 74 #[.pointer (some ⟨p, 0, none⟩), .slice (some ⟨g, 0, none⟩) b.length cp] w fun e w' => e = .returned (.tuple #[]) ∧ DnE W w' p o (s.lay b) fs := by
  obtain ⟨nv, fv, vs, h⟩ := h
  have H := Lib.hid h
  obtain ⟨c0, c1, c2, c3, c4, c5, c6, c7, c8, fr⟩ := h.cells
  clear h
  have m1 := ho.m1
  have hl := ho.len
  have o0 := ho.o0
  have o1 := ho.o1
  clear ho
  have HB := Lib.hid hb
  clear hb
  obtain ⟨i, z, hi, hz, hs, hby, hzs⟩ := info5
  have II := Lib.hid (And.intro hi (And.intro hz (And.intro hs (And.intro hby hzs))))
  clear hi hz hs hby hzs
  by_cases hov : s.most < ((s.now ++ b).length : Int)
  · go_enter Try.func74, Try.ntmps74
    go_wp2_with (refine wpList_append_lies _ rfl _ _ 53 rfl 0 5 i z 1 1 Try.underlying53 II.out.1 II.out.2.1 II.out.2.2.1 II.out.2.2.2.1 II.out.2.2.2.2 (by decide) nv s.now.length (enc s.now) rfl H.out.now _ b.length cp (enc b) rfl (by simp [enc]) HB.out (enc_one _) hb0 (by simp only [maxLen]; omega) (by omega) (Nat.zero_le _) _ rfl ?_; intro g2 cap2 w2 hown hgrow hat hlt; have hp2 := grown_here H.out hgrow; obtain ⟨d0, d1, d2, d3, d4, d5, d6, d7, d8, fr2⟩ := cells_of hp2)
    have H3 := H.out.laid b rfl hown hgrow hat
    clear hown hgrow hat c0 c1 c2 c3 c4 c5 c6 c7 c8 fr d0 d1 d2 d3 d4 d5 d6 d7 d8 fr2 H hp2
    obtain ⟨c0, c1, c2, c3, c4, c5, c6, c7, c8, fr⟩ := H3.cells
    have H := Lib.hid H3
    clear H3
    have hov' : s.most < ((s.now.length + b.length : Nat) : Int) := by rw [← List.length_append]; exact hov
    revert H c0 c1 c2 c3 c4 c5 c6 c7 c8 fr
    generalize w2.setCell ⟨p, 4, none⟩ (.slice (some ⟨g2, 0, none⟩) (s.now.length + b.length) cap2) = w3
    intro c0 c1 c2 c3 c4 c5 c6 c7 c8 fr H
    simp only at c0 c1 c2 c3 c4 c5 c6 c7 c8
    go_region
    all_goals
      go_wp2_with (go_at_call 67; refine (outside_walk _ _ _ _ _ _ _ _ _ (Dn.put (s' := { s with now := s.now ++ b, over := s.over + 1 }) H.out (Kep.setCell _ _ _ _) (Joins.block_setCell H.out.here _) rfl).drew).mono ?_; rintro e w4 ⟨rfl, hd⟩)
      go_end0
      exact ⟨rfl, by unfold Df.lay; rw [if_pos hov]; exact ⟨_, _, _, hd⟩⟩
  · go_enter Try.func74, Try.ntmps74
    go_wp2_with (refine wpList_append_lies _ rfl _ _ 53 rfl 0 5 i z 1 1 Try.underlying53 II.out.1 II.out.2.1 II.out.2.2.1 II.out.2.2.2.1 II.out.2.2.2.2 (by decide) nv s.now.length (enc s.now) rfl H.out.now _ b.length cp (enc b) rfl (by simp [enc]) HB.out (enc_one _) hb0 (by simp only [maxLen]; omega) (by omega) (Nat.zero_le _) _ rfl ?_; intro g2 cap2 w2 hown hgrow hat hlt; have hp2 := grown_here H.out hgrow; obtain ⟨d0, d1, d2, d3, d4, d5, d6, d7, d8, fr2⟩ := cells_of hp2)
    have H3 := H.out.laid b rfl hown hgrow hat
    clear hown hgrow hat c0 c1 c2 c3 c4 c5 c6 c7 c8 fr d0 d1 d2 d3 d4 d5 d6 d7 d8 fr2 H hp2
    obtain ⟨c0, c1, c2, c3, c4, c5, c6, c7, c8, fr⟩ := H3.cells
    have H := Lib.hid H3
    clear H3
    have hov' : ((s.now.length + b.length : Nat) : Int) ≤ s.most := by rw [← List.length_append]; exact hov
    revert H c0 c1 c2 c3 c4 c5 c6 c7 c8 fr
    generalize w2.setCell ⟨p, 4, none⟩ (.slice (some ⟨g2, 0, none⟩) (s.now.length + b.length) cap2) = w3
    intro c0 c1 c2 c3 c4 c5 c6 c7 c8 fr H
    simp only at c0 c1 c2 c3 c4 c5 c6 c7 c8
    go_region
    all_goals
      go_wp2_with fail
      go_end0
      exact ⟨rfl, by unfold Df.lay; rw [if_neg (Int.not_lt.2 hov)]; exact ⟨_, _, _, H.out.drew⟩⟩

theorem own_cells {w : World} {B n : Nat} {g cap : Nat} {xs : List Value} (h : w.ownsRow B 5 1 (.slice (some ⟨g, 0, none⟩) n cap) n xs) : ∀ j u, xs[j]? = some u → w.cell? ((⟨g, 0, none⟩ : Addr).add j) = some u := h.cells (g := g) rfl

theorem own_slice {w : World} {B e n : Nat} {v : Value} {xs : List Value} (h : w.ownsRow B e 1 v n xs) : ∃ a cap, v = .slice a n cap := by
  rcases h.2 with ⟨rfl, rfl⟩ | ⟨g, cap, cur, rfl, _⟩
  · exact ⟨_, _, rfl⟩
  · exact ⟨_, _, rfl⟩
theorem slice_nil (w : World) (a : Option Addr) (n c : Nat) : (binOp .eql 53 (.slice a n c) (.slice none 0 0)).run Try.prog w = .ok (.bool a.isNone) w := Lib.run_eql_slice_nil w 53 5 a n c 0 0 Try.underlying53

set_option maxRecDepth 100000 in
set_option maxHeartbeats 1000000 in
theorem clone_walk (l : List Int) (v : Value) (w : World) (h : w.ownsRow 0 5 1 v l.length (enc l)) (hl : l.length ≤ 65536) :
    Calls Try.prog 73 #[v] w fun e w' => ∃ a cap, e = .returned (.slice a l.length cap) ∧ w'.ownsRow w.heap.size 5 1 (.slice a l.length cap) l.length (enc l) ∧ Below w.heap.size w w' := by
  rcases h.2 with ⟨rfl, hn⟩ | ⟨g, cap, cur, rfl, _⟩
  · have h0 : l = [] := List.eq_nil_of_length_eq_zero hn
    subst h0
    clear h hn
    have sn := slice_nil
    go_enter Try.func73, Try.ntmps73
    go_wp2
    go_ret
    exact ⟨_, _, rfl, World.ownsRow_nil _ _ _ _, Below.refl _ _⟩
  · have H := Lib.hid h
    have H1 := Lib.hid (World.ownsRow.alloc h (.cells #[] 5))
    have M := Lib.hid (World.ownsRow_made w #[] 0 (base := w.heap.size) (e := 5) (size := 1) (Nat.le_refl _) (by decide) rfl)
    have B1 := Lib.hid ((Below.refl w.heap.size w).alloc (Nat.le_refl _) (.cells #[] 5))
    clear h
    obtain ⟨i, z, hi, hz, hs, hby, hzs⟩ := info5
    have II := Lib.hid (And.intro hi (And.intro hz (And.intro hs (And.intro hby hzs))))
    clear hi hz hs hby hzs
    have sn := slice_nil
    go_enter Try.func73, Try.ntmps73
    go_wp2_with (refine wpList_append_own _ rfl _ _ 53 rfl w.heap.size 5 i z 1 1 Try.underlying53 II.out.1 II.out.2.1 II.out.2.2.1 II.out.2.2.2.1 II.out.2.2.2.2 (by decide) (.slice (some ⟨w.heap.size, 0, none⟩) 0 0) 0 [] rfl M.out _ l.length cap (enc l) rfl (by simp [enc]) (own_cells H1.out) (enc_one _) (by simp only [maxLen]; omega) (by omega) (by simp) ?_; intro v2 w2 hown hgrow hat)
    go_ret
    have hown2 : w2.ownsRow w.heap.size 5 1 v2 l.length (enc l) := by simpa using hown
    obtain ⟨a, cap, rfl⟩ := own_slice hown2
    exact ⟨_, _, rfl, hown2, B1.out.grown hgrow (by simp) (by simp [Value.ownBlock])⟩

section
variable {W w w' : World} {p : Nat} {o : Option Nat} {s s' : Df} {nv fv : Value} {vs : List Value} {fs : List (List Int)}
/-- Behind an append to what was found, and the store. -/
theorem Dn.find (h : Dn W w p o s nv fv vs fs) {v : Value} {f : List Int} {g cap n : Nat} (hv : w.ownsRow W.heap.size 5 1 v f.length (enc f)) (hvn : ∀ k, v.ownBlock = some k → nv.ownBlock ≠ some k) (hn : n = vs.length + 1)
    (hown : w'.ownsRow W.heap.size 53 1 (.slice (some ⟨g, 0, none⟩) n cap) n (vs ++ [v])) (hg : w.grownBy w' fv.ownBlock) (hat : fv.ownBlock = some g ∨ g = w.heap.size) :
    Dn W (w'.setCell ⟨p, 5, none⟩ (.slice (some ⟨g, 0, none⟩) n cap)) p o s nv (.slice (some ⟨g, 0, none⟩) n cap) (vs ++ [v]) (fs ++ [f]) := by
  have hs := h.size
  have hs' := hg.size
  have hp : w'.heap[p]? = some (blk p s nv fv) := (hg.block p (blk_lt h.here) (fun e => own_ne h.found h.here (by decide) e.symm)).trans h.here
  have hgp : g ≠ p := by
    rintro rfl
    rcases hat with e | e
    · exact own_ne h.found h.here (by decide) e
    · have := blk_lt h.here; omega
  have put : ∀ k, k ≠ p → (w'.setCell ⟨p, 5, none⟩ (.slice (some ⟨g, 0, none⟩) n cap)).heap[k]? = w'.heap[k]? := fun k hk => Below.heap_setCell _ _ _ _ hk
  have five : ∀ {u : Value} {B m : Nat} {xs : List Value}, w.ownsRow B 5 1 u m xs → ∀ k, u.ownBlock = some k → (w'.setCell ⟨p, 5, none⟩ (.slice (some ⟨g, 0, none⟩) n cap)).heap[k]? = w.heap[k]? := by
    intro u B m xs hu k e
    have hne : k ≠ p := fun e' => own_ne hu h.here (by decide) (e' ▸ e)
    rw [put k hne]
    refine hg.block k (hu.lt k e).2 (fun e' => ?_)
    rcases hu.2 with ⟨rfl, _⟩ | ⟨g', cap', cur', rfl, _, hg', _⟩
    · simp [Value.ownBlock] at e
    · simp [Value.ownBlock] at e
      subst e
      exact own_ne h.found hg' (by decide) e'.symm
  refine ⟨hg.os.trans h.os, hg.tape.trans h.tape, hg.output.trans h.output, ?_, ?_, Joins.block_setCell hp _, own_stay h.now (five h.now), h.nowB, ?_, ?_, ?_, ?_⟩
  · simp only [World.setCell, Array.size_modify]; omega
  · intro k hk hkp hko
    rw [put k hkp, hg.block k (by omega) (fun e => ?_)]
    · exact h.old k hk hkp hko
    · have := (h.found.lt k e.symm).1; omega
  · have hl : (vs ++ [v]).length = n := by simp [hn]
    rw [hl]
    exact own_stay hown (fun k e => put k (by simp [Value.ownBlock] at e; omega))
  · refine Each.append (h.each.stay (fun u hu k e hB hk => ?_)) ⟨own_stay hv (five hv), trivial⟩
    obtain ⟨_, _, cs, fr, hc⟩ := (h.each.blocks u hu).1 k e
    have hne : k ≠ p := by
      rintro rfl
      rw [h.here] at hc
      simp [blk] at hc
    rw [put k hne]
    exact hg.block k hk (fun e' => own_ne h.found hc (by decide) e'.symm)
  · intro u hu k e
    rcases List.mem_append.1 hu with hu | hu
    · exact h.part u hu k e
    · simp at hu; subst hu; exact hvn k e
  · intro u hu
    rcases List.mem_append.1 hu with hu | hu
    · exact h.one u hu
    · simp at hu; subst hu
      rcases hv.2 with ⟨rfl, _⟩ | ⟨g, cap, cur, rfl, _, hg, _⟩ <;> rfl
end

theorem grown_found {W w w' : World} {p : Nat} {o : Option Nat} {s : Df} {nv fv : Value} {vs : List Value} {fs : List (List Int)} (h : Dn W w p o s nv fv vs fs) (hg : w.grownBy w' fv.ownBlock) : w'.heap[p]? = some (blk p s nv fv) :=
  (hg.block p (blk_lt h.here) (fun e => own_ne h.found h.here (by decide) e.symm)).trans h.here
theorem laid_news (w : World) (cs : Array Value) (b : List Int) (e : cs.toList = enc b) : ∀ j u, (enc b)[j]? = some u → (w.alloc (.cells cs 5)).cell? ((⟨w.heap.size, 0, none⟩ : Addr).add j) = some u := by
  rw [← e]; exact World.news_of_block (heap_alloc_new w _)
theorem DnE.alloc {W w : World} {p : Nat} {o : Option Nat} {s : Df} {fs : List (List Int)} (h : DnE W w p o s fs) (ob : Obj) : DnE W (w.alloc ob) p o s fs := by
  obtain ⟨nv, fv, vs, h⟩ := h
  exact ⟨nv, fv, vs, h.below ((Below.refl w.heap.size w).alloc (Nat.le_refl _) ob)⟩
theorem lay1 (W : World) (p : Nat) (o : Option Nat) (s : Df) (fs : List (List Int)) (w : World) (h : DnE W w p o s fs) (c : Int) {N : Int} (ho : s.Ok N) (hN : N ≤ 1099511627776) (n : Nat) (hn : n = w.heap.size) :
    Calls Try.prog 74 #[.pointer (some ⟨p, 0, none⟩), .slice (some ⟨n, 0, none⟩) 1 1] (w.alloc (.cells #[.int .u8 c] 5)) fun e w' => e = .returned (.tuple #[]) ∧ DnE W w' p o (s.lay [c]) fs := by
  subst hn
  exact lay_walk W p o s fs _ (h.alloc _) [c] _ 1 (laid_news w _ _ rfl) (by simp) (by simp) ho hN
theorem lay2 (W : World) (p : Nat) (o : Option Nat) (s : Df) (fs : List (List Int)) (w : World) (h : DnE W w p o s fs) (c d : Int) {N : Int} (ho : s.Ok N) (hN : N ≤ 1099511627776) (n : Nat) (hn : n = w.heap.size) :
    Calls Try.prog 74 #[.pointer (some ⟨p, 0, none⟩), .slice (some ⟨n, 0, none⟩) 2 2] (w.alloc (.cells #[.int .u8 c, .int .u8 d] 5)) fun e w' => e = .returned (.tuple #[]) ∧ DnE W w' p o (s.lay [c, d]) fs := by
  subst hn
  exact lay_walk W p o s fs _ (h.alloc _) [c, d] _ 2 (laid_news w _ _ rfl) (by simp) (by simp) ho hN

set_option maxRecDepth 100000 in
set_option maxHeartbeats 2000000 in
theorem take_walk (W : World) (p : Nat) (o : Option Nat) (s : Df) (c : Int) (fs : List (List Int)) (w : World) (h : DnE W w p o s fs) (hc : Byt c) {N : Int} (ho : s.Ok N) (hN : N ≤ 1099511627776) (hi : s.inn = true) (hfs : fs.length ≤ 1099511627776) :
    Calls Try.prog 72 #[.pointer (some ⟨p, 0, none⟩), .int .u8 c] w fun e w' => e = .returned (.tuple #[]) ∧ DnE W w' p o (s.take c) (fs ++ s.piece c) := by
  obtain ⟨nv, fv, vs, h⟩ := h
  have H := Lib.hid h
  obtain ⟨c0, c1, c2, c3, c4, c5, c6, c7, c8, fr⟩ := h.cells
  clear h
  obtain ⟨hc0, hc1⟩ := hc
  have OK := Lib.hid ho
  have b0 := ho.b0
  have b1 := ho.b1
  clear ho
  by_cases e11 : c = 11
  · subst e11
    go_enter Try.func72, Try.ntmps72
    go_wp2_with (go_at_call 71; refine (begin_walk _ _ _ _ _ _ _ _ _ (Dn.put (s' := { s with broken := s.broken + 1 }) H.out (Kep.setCell _ _ _ _) (Joins.block_setCell H.out.here _) rfl)).mono ?_; rintro e w1 ⟨rfl, hb⟩)
    go_end0
    refine ⟨rfl, ?_⟩
    have e1 : s.piece 11 = [] := by unfold Df.piece; rw [if_neg (by simp)]
    have e2 : s.take 11 = ({ s with broken := s.broken + 1 } : Df).beg := by unfold Df.take; rw [if_pos rfl]
    rw [e1, e2, List.append_nil]
    exact ⟨_, _, _, hb⟩
  have HE := Lib.hid (show DnE W w p o s fs from ⟨_, _, _, H.out⟩)
  cases hf : s.fin with
  | false =>
    rw [hf] at c3
    by_cases e28 : c = 28
    · subst e28
      go_enter Try.func72, Try.ntmps72
      go_wp2_with fail
      go_end0
      refine ⟨rfl, ?_⟩
      have e1 : s.piece 28 = [] := by unfold Df.piece; rw [if_neg (by rw [hf]; simp)]
      have e2 : s.take 28 = { s with fin := true } := by unfold Df.take; rw [if_neg (by decide), if_neg (by simp), if_pos rfl, if_neg (by rw [hf]; decide)]
      rw [e1, e2, List.append_nil]
      exact ⟨_, _, _, H.out.put (Kep.setCell _ _ _ _) (Joins.block_setCell H.out.here _) rfl⟩
    · go_enter Try.func72, Try.ntmps72
      go_wp2_with (go_at_call 74; refine (lay1 _ _ _ _ _ _ HE.out _ OK.out hN _ (by simp)).mono ?_; rintro e w1 ⟨rfl, hb⟩)
      go_end0
      refine ⟨rfl, ?_⟩
      have e1 : s.piece c = [] := by unfold Df.piece; rw [if_neg (by rw [hf]; simp)]
      have e2 : s.take c = s.lay [c] := by unfold Df.take; rw [if_neg e11, if_neg (by rw [hf]; simp), if_neg e28, if_neg (by rw [hf]; decide)]
      rw [e1, e2, List.append_nil]
      exact hb
  | true =>
    rw [hf] at c3
    by_cases e13 : c = 13
    · subst e13
      have hlen := OK.out.len
      have hm1 := OK.out.m1
      have hvl : vs.length ≤ 1099511627776 := by rw [H.out.each.len]; exact hfs
      obtain ⟨i, z, hi, hz, hs, hby, hzs⟩ := info53
      have II := Lib.hid (And.intro hi (And.intro hz (And.intro hs (And.intro hby hzs))))
      clear hi hz hs hby hzs
      go_enter Try.func72, Try.ntmps72
      go_wp2_with fail
      have K5 : ∀ (w : World) (v : Value), w.cell? ⟨p, 4, none⟩ = some nv → (w.setCell ⟨p, 5, none⟩ v).cell? ⟨p, 4, none⟩ = some nv := fun w v h => (World.cell?_setCell_other w ⟨p, 5, none⟩ ⟨p, 4, none⟩ v (by simp)).trans h
      have K5 := Lib.hid K5
      go_region_law (first | (go_simp; go_at_call 73; refine (clone_walk s.now _ _ H.out.drew.now (by omega)).mono ?_; rintro e w6 ⟨a6, cap6, rfl, hv6, hb6⟩; have H6 := Lib.hid (H.out.drew.below hb6); have HV := Lib.hid hv6; have HB := Lib.hid hb6; obtain ⟨-, -, -, -, d4, d5, -, -, -, -⟩ := H6.out.cells; have d5a := (H6.out.below ((Below.refl _ _).alloc (Nat.le_refl _) (.cells #[.slice a6 s.now.length cap6] 53))).cells.c5; clear hv6 hb6; dsimp only) | (refine step_append_lies _ rfl (.tmp 33) (.tmp 39) 63 rfl W.heap.size 53 i z 1 24 Try.underlying63 II.out.1 II.out.2.1 II.out.2.2.1 II.out.2.2.2.1 II.out.2.2.2.2 (by decide) fv vs.length vs (by simp [Act.eval]) (H6.out.below ((Below.refl _ _).alloc (Nat.le_refl _) (.cells #[.slice a6 s.now.length cap6] 53))).found ⟨w6.heap.size, 0, none⟩ 1 1 [.slice a6 s.now.length cap6] (by simp [Act.eval]) rfl (World.news_of_block (heap_alloc_new _ _)) (by simp [Value.oneCell']) (by omega) (by simp only [maxLen]; omega) (by omega) ((H6.out.below ((Below.refl _ _).alloc (Nat.le_refl _) (.cells #[.slice a6 s.now.length cap6] 53))).size) _ rfl ?_; intro g7 cap7 w7 hown hgrow hat hlt; have hp7 := grown_found (H6.out.below ((Below.refl _ _).alloc (Nat.le_refl _) (.cells #[.slice a6 s.now.length cap6] 53))) hgrow; obtain ⟨-, -, -, -, g4, g5, -, -, -, gfr⟩ := cells_of hp7))
      all_goals
        have HF := Lib.hid (Dn.find (H6.out.below ((Below.refl _ _).alloc (Nat.le_refl _) (.cells #[.slice a6 s.now.length cap6] 53))) (own_le (World.ownsRow.alloc HV.out _) H.out.size) (fun k e e' => by have h1 := (HV.out.lt k e).1; have h2 := (H.out.now.lt k e').2; simp at h1; omega) rfl hown hgrow hat)
        clear hown hgrow hat hlt hp7 g4 g5 gfr d4 d5 d5a c0 c1 c2 c3 c4 c5 c6 c7 c8 fr K5 II H6 HV HB H HE
        go_wp2_with (go_at_call 67; refine (outside_walk _ _ _ _ _ _ _ _ _ HF.out).mono ?_; rintro e w8 ⟨rfl, hb⟩)
        go_end0
        refine ⟨rfl, ?_⟩
        have e1 : s.piece 13 = [s.now] := by unfold Df.piece; rw [if_pos ⟨hi, hf, rfl⟩]
        have e2 : s.take 13 = s.out := by unfold Df.take; rw [if_neg (by decide), if_pos ⟨hf, rfl⟩]
        rw [e1, e2]
        exact ⟨_, _, _, hb⟩
    by_cases e28 : c = 28
    · subst e28
      go_enter Try.func72, Try.ntmps72
      go_wp2_with (go_at_call 74; refine (lay1 _ _ _ _ _ _ HE.out _ OK.out hN _ (by simp)).mono ?_; rintro e w1 ⟨rfl, hb⟩)
      go_end0
      refine ⟨rfl, ?_⟩
      have e1 : s.piece 28 = [] := by unfold Df.piece; rw [if_neg (by simp)]
      have e2 : s.take 28 = s.lay [28] := by unfold Df.take; rw [if_neg (by decide), if_neg (by simp), if_pos rfl, if_pos hf]
      rw [e1, e2, List.append_nil]
      exact hb
    · have P := Lib.hid (show DnE W (w.setCell ⟨p, 3, none⟩ (.bool false)) p o { s with fin := false } fs from ⟨_, _, _, H.out.put (Kep.setCell _ _ _ _) (Joins.block_setCell H.out.here _) rfl⟩)
      have OK2 := Lib.hid (OK.out.fin false)
      go_enter Try.func72, Try.ntmps72
      go_wp2_with (go_at_call 74; refine (lay2 _ _ _ _ _ _ P.out _ _ OK2.out hN _ (by simp)).mono ?_; rintro e w1 ⟨rfl, hb⟩)
      go_end0
      refine ⟨rfl, ?_⟩
      have e1 : s.piece c = [] := by unfold Df.piece; rw [if_neg (by simp [e13])]
      have e2 : s.take c = ({ s with fin := false } : Df).lay [28, c] := by unfold Df.take; rw [if_neg e11, if_neg (by simp [e13]), if_neg e28, if_pos hf]
      rw [e1, e2, List.append_nil]
      exact hb
end Go.Proofs.Ytmollbnhndjjeaa
