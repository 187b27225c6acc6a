/- What DeframePieces' loop holds. -/
import Derived.Test.YtmollbnhndjjeaaBh
namespace Go.Proofs.Ytmollbnhndjjeaa
open Go.RowKit

/-- append of slices of slices, the appended one nil or not. -/
theorem append_rows (w : World) (base B n m : Nat) (v x : Value) (xs news : List Value) (hown : w.ownsRow base 53 1 v n xs) (hx : w.ownsRow B 53 1 x m news) (h1 : ∀ u ∈ news, u.oneCell' = true)
    (hn : n + m ≤ 1099511627776) (hbase : base ≤ w.heap.size) :
    ∃ v' w', (Builtin.append_ #[63, 63] 63 #[v, x]).run Try.prog w = .ok v' w' ∧ w'.ownsRow base 53 1 v' (n + m) (xs ++ news) ∧ w.grownBy w' v.ownBlock := by
  obtain ⟨i, z, hi, hz, hs, hby, hzs⟩ := info53
  rcases hx.2 with ⟨rfl, rfl⟩ | ⟨g, cap, cur, rfl, hrest⟩
  · have e : news = [] := List.eq_nil_of_length_eq_zero (by simpa using hx.1)
    subst e
    refine ⟨v, w, ?_, by simpa using hown, ⟨rfl, rfl, rfl, Nat.le_refl _, fun _ _ _ => rfl⟩⟩
    rcases hown.2 with ⟨rfl, rfl⟩ | ⟨g, cap, cur, rfl, _, _, hc, _⟩
    · simp [Builtin.append_, run_underlying Try.underlying63, sizeOf, typeInfo, hi, Builtin.lenOf, Builtin.firstCells]
    · simp [Builtin.append_, run_underlying Try.underlying63, sizeOf, typeInfo, hi, Builtin.lenOf, Builtin.firstCells, loadCells, hc, storeCells]
  · obtain ⟨v', w', hr, h2, h3, -, -⟩ := run_append_own_at (P := Try.prog) w base 63 63 53 i z 1 24 Try.underlying63 hi hz hs hby hzs (by decide) v n xs hown ⟨g, 0, none⟩ m cap news (by simpa using hx.1) (hx.cells (g := g) rfl) h1 (by simp only [maxLen]; omega) (by omega) hbase
    exact ⟨v', w', hr, h2, h3⟩

theorem wpList_append_rows (w : World) {ops : Array Oper} {rest : List Oper} {o : Oper} {a : Act} {Q : Exit → Act → World → Prop} (hgd : o.guard = none) (s x : Operand) (ht : o.type = 63)
    (ho : o.op = .call { callee := .builtin .append, args := #[s, x], argTypes := #[63, 63] })
    (base B n m : Nat) (v y : Value) (xs news : List Value) (hs : a.eval s = v) (hown : w.ownsRow base 53 1 v n xs) (hy : a.eval x = y) (hx : w.ownsRow B 53 1 y m news) (h1 : ∀ u ∈ news, u.oneCell' = true)
    (hn : n + m ≤ 1099511627776) (hbase : base ≤ w.heap.size)
    (h : ∀ v' w', w'.ownsRow base 53 1 v' (n + m) (xs ++ news) → w.grownBy w' v.ownBlock → wpList Try.prog ops Q rest (a.put o.dst v') w') : wpList Try.prog ops Q (o :: rest) a w :=
  wpList_plain hgd fun _ hK => by
    obtain ⟨v', w', hr, h2, h3⟩ := append_rows w base B n m v y xs news hown hx h1 hn hbase
    unfold Oper.wp execOp
    simp only [ho, resolve, invoke, builtin, Sem.run_bind, Sem.run_pure, Result.andThen_ok, List.map_toArray, List.map_cons, List.map_nil, hs, hy, ht, hr]
    exact hK _ _ (h v' w' h2 h3)

/-- Bytes that came in, in the world w. -/
structure Com (w : World) (a : Option Addr) (cap : Nat) (zs : List Int) : Prop where
  byt : ∀ z ∈ zs, Byt z
  room : zs.length ≤ cap
  cell : 0 < zs.length → ∃ b f, a = some ⟨b, f, none⟩ ∧ b < w.heap.size ∧ ∀ i, i < zs.length → w.cell? ⟨b, f + i, none⟩ = some (.int .u8 (zs.getD i 0))
theorem Com.src {w wr : World} {a : Option Addr} {cap : Nat} {zs : List Int} (h : Com w a cap zs) (k : Below w.heap.size w wr) {q : Nat} {o : Option Nat} (hq : w.heap.size ≤ q) (ho : ∀ k, o = some k → w.heap.size ≤ k) : Src wr q o a zs :=
  ⟨h.byt, fun h0 => by
    obtain ⟨b, f, e, hb, hx⟩ := h.cell h0
    refine ⟨b, f, e, Nat.lt_of_lt_of_le hb k.size, by omega, fun e' => by have := ho b e'.symm; omega, fun i hi => ?_⟩
    rw [k.cell (p := ⟨b, f + i, none⟩) hb]; exact hx i hi⟩
theorem Com.front {w : World} {a : Option Addr} {cap : Nat} {x y : List Int} (h : Com w a cap (x ++ y)) : Com w a cap x := by
  refine ⟨fun z hz => h.byt z (List.mem_append_left _ hz), by have := h.room; simp at this; omega, fun h0 => ?_⟩
  obtain ⟨b, f, e, hb, hx⟩ := h.cell (by simp; omega)
  refine ⟨b, f, e, hb, fun i hi => ?_⟩
  have := hx i (by simp; omega)
  rw [List.getD_eq_getElem?_getD, List.getElem?_append_left hi, ← List.getD_eq_getElem?_getD] at this
  exact this
theorem Com.back {w : World} {a a' : Option Addr} {cap cap' : Nat} {x y : List Int} (h : Com w a cap (x ++ y)) (ha : cap ≠ x.length → a' = a.map (·.add x.length)) (hc : cap' = cap - x.length) : Com w a' cap' y := by
  have hr := h.room
  simp at hr
  refine ⟨fun z hz => h.byt z (List.mem_append_right _ hz), by omega, fun h0 => ?_⟩
  obtain ⟨b, f, e, hb, hx⟩ := h.cell (by simp; omega)
  have e2 := ha (by omega)
  subst e
  refine ⟨b, f + x.length, by rw [e2]; show some _ = some _; unfold Addr.add; split <;> simp_all, hb, fun i hi => ?_⟩
  have := hx (x.length + i) (by simp; omega)
  rw [List.getD_eq_getElem?_getD, List.getElem?_append_right (by omega), Nat.add_sub_cancel_left, ← List.getD_eq_getElem?_getD] at this
  rw [Nat.add_assoc]
  exact this

/-- What the loop holds: since w4 the second deframer was fed pre. -/
structure Pcs (w4 : World) (q : Nat) (s : Df) (wr : World) (pre : List Int) (nvq gv : Value) (vs : List Value) : Prop where
  kep : Kep q w4 wr
  rest : Rest wr q (s.run pre) nvq
  nq : ∀ k, nvq.ownBlock = some k → w4.heap.size ≤ k
  got : wr.ownsRow w4.heap.size 53 1 gv vs.length vs
  each : Each w4.heap.size wr vs (s.pieces pre)
  part : ∀ v ∈ vs, ∀ k, v.ownBlock = some k → nvq.ownBlock ≠ some k

section
variable {w4 wr w5 w6 : World} {q : Nat} {s : Df} {pre x : List Int} {nvq gv gv' nv' lv5 : Value} {vs us5 : List Value}
theorem Pcs.got5 (h : Pcs w4 q s wr pre nvq gv vs) {t : Df} {fs : List (List Int)} (hf : Fed wr w5 q nvq.ownBlock t nv' lv5 us5 fs) : w5.ownsRow w4.heap.size 53 1 gv vs.length vs := by
  refine own_stay h.got (fun k e => hf.old k (h.got.lt k e).2 (fun e' => own_ne h.got h.rest.1 (by decide) (e' ▸ e)) (fun e' => ?_))
  rcases h.got.2 with ⟨e0, _⟩ | ⟨g', cap', cur', e0, _, hg', _⟩
  · rw [e0] at e; simp [Value.ownBlock] at e
  · rw [e0] at e
    simp [Value.ownBlock] at e
    subst e
    exact own_ne h.rest.2 hg' (by decide) e'.symm
theorem Pcs.more (h : Pcs w4 q s wr pre nvq gv vs) (hf : Fed wr w5 q nvq.ownBlock ((s.run pre).run x) nv' lv5 us5 ((s.run pre).pieces x))
    (hown : w6.ownsRow w4.heap.size 53 1 gv' (vs.length + us5.length) (vs ++ us5)) (hg : w5.grownBy w6 gv.ownBlock) : Pcs w4 q s w6 (pre ++ x) nv' gv' (vs ++ us5) := by
  have g5 := h.got5 hf
  have hs1 := h.kep.size
  have hs2 := hf.size
  have hs3 := hg.size
  have five : ∀ {u : Value} {B m : Nat} {xs : List Value}, w5.ownsRow B 5 1 u m xs → w6.ownsRow B 5 1 u m xs := by
    intro u B m xs hu
    refine own_stay hu (fun k e => hg.block k (hu.lt k e).2 (fun e' => ?_))
    rcases hu.2 with ⟨e0, _⟩ | ⟨g', cap', cur', e0, _, hg', _⟩
    · rw [e0] at e; simp [Value.ownBlock] at e
    · rw [e0] at e
      simp [Value.ownBlock] at e
      subst e
      exact own_ne g5 hg' (by decide) e'.symm
  have fiveE : ∀ {B : Nat} {us : List Value} {fs : List (List Int)}, Each B w5 us fs → Each B w6 us fs := by
    intro B us fs he
    refine he.stay (fun v hv k e hB hk => hg.block k hk (fun e' => ?_))
    obtain ⟨_, _, cs, fr, hc⟩ := (he.blocks v hv).1 k e
    exact own_ne g5 hc (by decide) e'.symm
  refine ⟨⟨?_, ?_, ?_, by omega, ?_⟩, ⟨?_, ?_⟩, ?_, ?_, ?_, ?_⟩
  · rw [hg.os, hf.os, h.kep.os]
  · rw [hg.tape, hf.tape, h.kep.tape]
  · rw [hg.output, hf.output, h.kep.output]
  · intro k hk hkq
    rw [hg.block k (by omega) (fun e => by have := (h.got.lt k e.symm).1; omega), hf.old k (by omega) hkq (fun e => by have := h.nq k e.symm; omega)]
    exact h.kep.block k hk hkq
  · rw [Df.run_append]
    exact (hg.block q (blk_lt hf.rest.1) (fun e => own_ne g5 hf.rest.1 (by decide) e.symm)).trans hf.rest.1
  · rw [Df.run_append]
    exact five hf.rest.2
  · intro k e
    rcases hf.nowB k e with e' | e'
    · exact h.nq k e'.symm
    · omega
  · rw [List.length_append]; exact hown
  · rw [Df.pieces_append]
    refine Each.append (fiveE (h.each.stay (fun v hv k e hB hk => hf.old k hk (fun e' => ?_) (fun e' => h.part v hv k e e'.symm)))) (Each.le (by omega) (fiveE hf.each))
    obtain ⟨_, _, cs, fr, hc⟩ := (h.each.blocks v hv).1 k e
    rw [e', h.rest.1] at hc
    simp [blk] at hc
  · intro v hv k e e2
    rcases List.mem_append.1 hv with hv | hv
    · rcases hf.nowB k e2 with e' | e'
      · exact h.part v hv k e e'.symm
      · have := ((h.each.blocks v hv).1 k e).2.1; omega
    · exact hf.part v hv k e e2
end
end Go.Proofs.Ytmollbnhndjjeaa
