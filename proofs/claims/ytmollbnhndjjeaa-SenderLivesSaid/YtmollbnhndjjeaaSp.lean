/- What a sender is, on numbers alone; and how it lies in memory. -/
import Derived.Test.YtmollbnhndjjeaaDu
import Derived.Lib.SmallJoins
namespace Go.Proofs.Ytmollbnhndjjeaa
open Go.RowKit

/-- A config. -/
structure Cf where
  mf : Int
  base : Int
  cap : Int
  tmo : Int
  f : Nat
/-- A config that may be. -/
structure Cf.Fair (c : Cf) : Prop where
  b0 : 0 ≤ c.base
  c0 : 0 ≤ c.cap
  b1 : c.base ≤ 1099511627776
  c1 : c.cap ≤ 1099511627776
  t0 : 1 ≤ c.tmo
  t1 : c.tmo ≤ 1099511627776
/-- A sender: where it stands, how many there are, what it does (0 idle, 1 flying, 2 resting), the ticks left, how often it failed. -/
structure St where
  pos : Int
  known : Int
  kind : Int
  left : Int
  tries : Int
structure St.Ok (s : St) : Prop where
  p0 : 0 ≤ s.pos
  pk : s.pos ≤ s.known
  k1 : s.known ≤ 1099511627776
  r0 : 0 ≤ s.tries
  r1 : s.tries ≤ 1099511627776
  l1 : s.left ≤ 1099511627776
  kl : (s.kind = 0 ∧ s.left = 0) ∨ (s.kind = 1 ∧ 1 ≤ s.left) ∨ (s.kind = 2 ∧ 1 ≤ s.left)

def Cf.del (c : Cf) (k : Int) : Int := nx c.base c.cap c.f k
theorem Cf.del_range {c : Cf} (h : c.Fair) (k : Int) : 0 ≤ c.del k ∧ c.del k ≤ 1099511627776 := by
  obtain ⟨a, b⟩ := nx_range (base := c.base) (fw := c.f) (k := k) h.c0 h.c1
  exact ⟨a, Int.le_trans b h.c1⟩

/-- It rests, or is idle at once. -/
def St.rest (s : St) (left : Int) : St := { s with kind := if left = 0 then 0 else 2, left := left }
def St.fail (c : Cf) (s : St) : St := ({ s with tries := min (s.tries + 1) 1099511627776 } : St).rest (c.del s.tries)
def St.fly (s : St) : Bool := s.kind == 1
def St.polls (s : St) : Bool := s.kind == 0 && decide (s.pos < s.known)
def St.poll (c : Cf) (s : St) : St := if s.polls then { s with kind := 1, left := c.tmo } else s
def St.pollN (s : St) : Int := if s.polls then s.pos else 0
def St.answer (c : Cf) (s : St) (ok : Bool) : St := if s.fly then (if ok then { s with kind := 0, left := 0, tries := 0, pos := s.pos + 1 } else s.fail c) else s
def St.drop (c : Cf) (s : St) : St := if s.fly then s.fail c else s
def St.offerOk (s : St) (n : Int) : Bool := decide (s.known ≤ n ∧ n ≤ 1099511627776)
def St.offer (s : St) (n : Int) : St := if s.offerOk n then { s with known := n } else s
def St.offerE (s : St) (n : Int) : Int := if s.offerOk n then 0 else 3
/-- The rest goes by. -/
def St.lapse (s : St) (n : Int) : St := if s.kind = 2 then s.rest (max 0 (s.left - n)) else s
def St.tick (c : Cf) (s : St) (n : Int) : St :=
  if n < 0 then s
  else if s.kind = 1 then (if n < s.left then { s with left := s.left - n } else (s.fail c).lapse (n - s.left))
  else s.lapse n
def tickE (n : Int) : Int := if n < 0 then 3 else 0

theorem St.Ok.rest {s : St} (h : s.Ok) {d : Int} (h0 : 0 ≤ d) (h1 : d ≤ 1099511627776) : (s.rest d).Ok := by
  obtain ⟨a1, a2, a3, a4, a5, a6, a7⟩ := h
  unfold St.rest
  refine ⟨a1, a2, a3, a4, a5, h1, ?_⟩
  show ((if d = 0 then 0 else 2) = 0 ∧ d = 0) ∨ ((if d = 0 then 0 else 2) = 1 ∧ 1 ≤ d) ∨ ((if d = 0 then 0 else 2) = 2 ∧ 1 ≤ d)
  by_cases hd : d = 0
  · rw [if_pos hd]; exact .inl ⟨rfl, hd⟩
  · rw [if_neg hd]; exact .inr (.inr ⟨rfl, by omega⟩)
theorem St.Ok.fail {c : Cf} {s : St} (hc : c.Fair) (h : s.Ok) : (s.fail c).Ok := by
  obtain ⟨d0, d1⟩ := Cf.del_range hc s.tries
  unfold St.fail
  refine St.Ok.rest ?_ d0 d1
  obtain ⟨a1, a2, a3, a4, a5, a6, a7⟩ := h
  exact ⟨a1, a2, a3, by show 0 ≤ min (s.tries + 1) 1099511627776; omega, by show min (s.tries + 1) 1099511627776 ≤ _; omega, a6, a7⟩
theorem St.Ok.lapse {s : St} (h : s.Ok) {n : Int} (hn : 0 ≤ n) : (s.lapse n).Ok := by
  unfold St.lapse
  split
  · have := h.l1
    exact St.Ok.rest h (by omega) (by omega)
  · exact h
theorem St.fly_iff {s : St} : s.fly = true ↔ s.kind = 1 := by unfold St.fly; simp
theorem St.Ok.answer {c : Cf} {s : St} (hc : c.Fair) (h : s.Ok) {ok : Bool} (hp : s.fly = true → s.pos < s.known) : (s.answer c ok).Ok := by
  unfold St.answer
  split
  · rename_i hf
    split
    · have hk := hp hf
      obtain ⟨a1, a2, a3, a4, a5, a6, a7⟩ := h
      exact ⟨by show 0 ≤ s.pos + 1; omega, by show s.pos + 1 ≤ s.known; omega, a3, Int.le_refl _, by show (0 : Int) ≤ _; omega, by show (0 : Int) ≤ _; omega, .inl ⟨rfl, rfl⟩⟩
    · exact h.fail hc
  · exact h
theorem St.Ok.drop {c : Cf} {s : St} (hc : c.Fair) (h : s.Ok) : (s.drop c).Ok := by
  unfold St.drop
  split
  · exact h.fail hc
  · exact h
theorem St.Ok.poll {c : Cf} {s : St} (hc : c.Fair) (h : s.Ok) : (s.poll c).Ok := by
  unfold St.poll
  split
  · obtain ⟨a1, a2, a3, a4, a5, a6, a7⟩ := h
    exact ⟨a1, a2, a3, a4, a5, hc.t1, .inr (.inl ⟨rfl, hc.t0⟩)⟩
  · exact h
theorem St.Ok.offer {s : St} (h : s.Ok) {n : Int} : (s.offer n).Ok := by
  unfold St.offer
  split
  · rename_i hn
    unfold St.offerOk at hn
    simp only [decide_eq_true_eq] at hn
    obtain ⟨a1, a2, a3, a4, a5, a6, a7⟩ := h
    exact ⟨a1, by show s.pos ≤ n; omega, hn.2, a4, a5, a6, a7⟩
  · exact h
theorem St.Ok.tick {c : Cf} {s : St} (hc : c.Fair) (h : s.Ok) {n : Int} : (s.tick c n).Ok := by
  unfold St.tick
  split
  · exact h
  · split
    · rename_i hk
      split
      · obtain ⟨a1, a2, a3, a4, a5, a6, a7⟩ := h
        exact ⟨a1, a2, a3, a4, a5, by show s.left - n ≤ _; omega, .inr (.inl ⟨hk, by show 1 ≤ s.left - n; omega⟩)⟩
      · exact (h.fail hc).lapse (by omega)
    · exact h.lapse (by omega)

/-! ### memory -/
/-- Nothing that was there has turned, but block S. -/
structure Kept (S : Nat) (w w' : World) : Prop where
  os : w'.os = w.os
  tape : w'.tape = w.tape
  output : w'.output = w.output
  size : w.heap.size ≤ w'.heap.size
  block : ∀ k, k < w.heap.size → k ≠ S → w'.heap[k]? = w.heap[k]?
theorem Kept.refl (S : Nat) (w : World) : Kept S w w := ⟨rfl, rfl, rfl, Nat.le_refl _, fun _ _ _ => rfl⟩
theorem Kept.trans {S : Nat} {a b c : World} (h : Kept S a b) (k : Kept S b c) : Kept S a c :=
  ⟨k.os.trans h.os, k.tape.trans h.tape, k.output.trans h.output, Nat.le_trans h.size k.size, fun i hi hs => (k.block i (Nat.lt_of_lt_of_le hi h.size) hs).trans (h.block i hi hs)⟩
theorem Kept.of_below {S : Nat} {w w' : World} (h : Below w.heap.size w w') : Kept S w w' := ⟨h.os, h.tape, h.output, h.size, fun k hk _ => h.block k hk⟩
theorem Kept.setCell (S i : Nat) (w : World) (v : Value) : Kept S w (w.setCell ⟨S, i, none⟩ v) :=
  ⟨rfl, rfl, rfl, by simp [World.setCell], fun k _ hs => Below.heap_setCell _ _ _ _ hs⟩
theorem Kept.below {S B : Nat} {w w' : World} (h : Kept S w w') (hS : B ≤ S) (hB : B ≤ w.heap.size) : Below B w w' :=
  ⟨h.os, h.tape, h.output, h.size, fun k hk => h.block k (by omega) (by omega)⟩
/-- Behind a call that wrote one block of the caller's own. -/
theorem below_kept {S B : Nat} {w wr w' : World} (h : Below B w wr) (hB : B ≤ wr.heap.size) (k : Kept S wr w') (hS : B ≤ S) : Below B w w' := h.trans (k.below hS hB)
theorem Kept.cell {S : Nat} {w w' : World} (h : Kept S w w') {b o : Nat} (hb : b < w.heap.size) (hs : b ≠ S) : w'.cell? ⟨b, o, none⟩ = w.cell? ⟨b, o, none⟩ := World.cell?_of_block (w := w) (h.block b hb hs)
theorem CfgAt.kept {S : Nat} {w w' : World} {B : Nat} {mf b l t : Int} {f : Nat} (h : CfgAt w B mf b l t f) (hk : Kept S w w') (hs : B ≠ S) : CfgAt w' B mf b l t f := by
  obtain ⟨h0, h1, h2, h3, h4, h5⟩ := h
  refine ⟨Nat.lt_of_lt_of_le h0 hk.size, ?_, ?_, ?_, ?_, ?_⟩
  · rw [hk.cell h0 hs]; exact h1
  · rw [hk.cell h0 hs]; exact h2
  · rw [hk.cell h0 hs]; exact h3
  · rw [hk.cell h0 hs]; exact h4
  · rw [hk.cell h0 hs]; exact h5

/-- A sender in memory. -/
def SndAt (w : World) (S : Nat) (c : Cf) (s : St) : Prop :=
  w.heap[S]? = some (.cells #[.int .i64 c.mf, .int .i64 c.base, .int .i64 c.cap, .int .i64 c.tmo, .float .f64 c.f, .int .i64 s.pos, .int .i64 s.known, .int .i64 s.kind, .int .i64 s.left, .int .i64 s.tries] 89 (0, 0))
/-- The reference's. -/
def RefAt (w : World) (S : Nat) (c : Cf) (s : St) : Prop :=
  w.heap[S]? = some (.cells #[.int .i64 c.mf, .int .i64 c.base, .int .i64 c.cap, .int .i64 c.tmo, .float .f64 c.f, .int .i64 s.pos, .int .i64 s.known, .bool (s.kind == 1), .bool (s.kind == 2), .int .i64 s.left, .int .i64 s.tries] 80 (0, 0))
theorem lt_of_at {w : World} {S : Nat} {o : Obj} (h : w.heap[S]? = some o) : S < w.heap.size := by
  rcases Nat.lt_or_ge S w.heap.size with h' | h'
  · exact h'
  · simp [Array.getElem?_eq_none h'] at h
theorem SndAt.lt {w : World} {S : Nat} {c : Cf} {s : St} (h : SndAt w S c s) : S < w.heap.size := lt_of_at h
theorem RefAt.lt {w : World} {S : Nat} {c : Cf} {s : St} (h : RefAt w S c s) : S < w.heap.size := lt_of_at h
theorem SndAt.kept {w w' : World} {S S' : Nat} {c : Cf} {s : St} (h : SndAt w S c s) (k : Kept S' w w') (hs : S ≠ S') : SndAt w' S c s := (k.block S h.lt hs).trans h
theorem SndAt.below {w w' : World} {S : Nat} {c : Cf} {s : St} (h : SndAt w S c s) (k : Below w.heap.size w w') : SndAt w' S c s := (k.block S h.lt).trans h
theorem RefAt.kept {w w' : World} {S S' : Nat} {c : Cf} {s : St} (h : RefAt w S c s) (k : Kept S' w w') (hs : S ≠ S') : RefAt w' S c s := (k.block S h.lt hs).trans h
theorem RefAt.below {w w' : World} {S : Nat} {c : Cf} {s : St} (h : RefAt w S c s) (k : Below w.heap.size w w') : RefAt w' S c s := (k.block S h.lt).trans h
/-- The cells of a sender, and that they may be written. -/
structure SndCells (w : World) (S : Nat) (c : Cf) (s : St) : Prop where
  c0 : w.cell? ⟨S, 0, none⟩ = some (.int .i64 c.mf)
  c1 : w.cell? ⟨S, 1, none⟩ = some (.int .i64 c.base)
  c2 : w.cell? ⟨S, 2, none⟩ = some (.int .i64 c.cap)
  c3 : w.cell? ⟨S, 3, none⟩ = some (.int .i64 c.tmo)
  c4 : w.cell? ⟨S, 4, none⟩ = some (.float .f64 c.f)
  c5 : w.cell? ⟨S, 5, none⟩ = some (.int .i64 s.pos)
  c6 : w.cell? ⟨S, 6, none⟩ = some (.int .i64 s.known)
  c7 : w.cell? ⟨S, 7, none⟩ = some (.int .i64 s.kind)
  c8 : w.cell? ⟨S, 8, none⟩ = some (.int .i64 s.left)
  c9 : w.cell? ⟨S, 9, none⟩ = some (.int .i64 s.tries)
  free : ∀ i, w.frozen? ⟨S, i, none⟩ = false
theorem SndAt.cells {w : World} {S : Nat} {c : Cf} {s : St} (h : SndAt w S c s) : SndCells w S c s := by
  refine ⟨?_, ?_, ?_, ?_, ?_, ?_, ?_, ?_, ?_, ?_, Joins.unfrozen_of_block h⟩ <;> exact Joins.cell_of_block h _
structure RefCells (w : World) (S : Nat) (c : Cf) (s : St) : Prop where
  c0 : w.cell? ⟨S, 0, none⟩ = some (.int .i64 c.mf)
  c1 : w.cell? ⟨S, 1, none⟩ = some (.int .i64 c.base)
  c2 : w.cell? ⟨S, 2, none⟩ = some (.int .i64 c.cap)
  c3 : w.cell? ⟨S, 3, none⟩ = some (.int .i64 c.tmo)
  c4 : w.cell? ⟨S, 4, none⟩ = some (.float .f64 c.f)
  c5 : w.cell? ⟨S, 5, none⟩ = some (.int .i64 s.pos)
  c6 : w.cell? ⟨S, 6, none⟩ = some (.int .i64 s.known)
  c7 : w.cell? ⟨S, 7, none⟩ = some (.bool (s.kind == 1))
  c8 : w.cell? ⟨S, 8, none⟩ = some (.bool (s.kind == 2))
  c9 : w.cell? ⟨S, 9, none⟩ = some (.int .i64 s.left)
  c10 : w.cell? ⟨S, 10, none⟩ = some (.int .i64 s.tries)
  free : ∀ i, w.frozen? ⟨S, i, none⟩ = false
theorem RefAt.cells {w : World} {S : Nat} {c : Cf} {s : St} (h : RefAt w S c s) : RefCells w S c s := by
  refine ⟨?_, ?_, ?_, ?_, ?_, ?_, ?_, ?_, ?_, ?_, ?_, Joins.unfrozen_of_block h⟩ <;> exact Joins.cell_of_block h _
end Go.Proofs.Ytmollbnhndjjeaa
