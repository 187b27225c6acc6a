/- What a deframer is, on numbers alone; and how it lies in memory. -/
import Derived.Test.YtmollbnhndjjeaaRows
import Derived.WalkKit
import Derived.Lib.SmallJoins
import Derived.Deep.AppendLies
import Derived.Laws.BytesArg
import Derived.Below
namespace Go.Proofs.Ytmollbnhndjjeaa
open Go.RowKit

/-- A deframer: its bound; whether it is in a frame; whether an end is held back; the frame's bytes so far; three counts. -/
structure Df where
  most : Int
  inn : Bool
  fin : Bool
  now : List Int
  junk : Int
  over : Int
  broken : Int

def Df.out (s : Df) : Df := { s with inn := false, fin := false, now := [] }
def Df.beg (s : Df) : Df := { s with inn := true, fin := false, now := [] }
def Df.lay (s : Df) (b : List Int) : Df :=
  if s.most < ((s.now ++ b).length : Int) then ({ s with now := s.now ++ b, over := s.over + 1 } : Df).out else { s with now := s.now ++ b }
def Df.skip (s : Df) (c : Int) : Df := if c = 11 then s.beg else { s with junk := s.junk + 1 }
def Df.take (s : Df) (c : Int) : Df :=
  if c = 11 then ({ s with broken := s.broken + 1 } : Df).beg
  else if s.fin = true ∧ c = 13 then s.out
  else if c = 28 then (if s.fin = true then s.lay [28] else { s with fin := true })
  else if s.fin = true then ({ s with fin := false } : Df).lay [28, c]
  else s.lay [c]
def Df.step (s : Df) (c : Int) : Df := if s.inn = true then s.take c else s.skip c
def Df.piece (s : Df) (c : Int) : List (List Int) := if s.inn = true ∧ s.fin = true ∧ c = 13 then [s.now] else []
def Df.run : Df → List Int → Df
  | s, [] => s
  | s, c :: l => Df.run (s.step c) l
def Df.pieces : Df → List Int → List (List Int)
  | _, [] => []
  | s, c :: l => s.piece c ++ Df.pieces (s.step c) l
def Df.held (s : Df) : Int := if s.inn = true then (if s.fin = true then (s.now.length : Int) + 2 else (s.now.length : Int) + 1) else 0
/-- A new one. -/
def Df.new (m : Int) : Df := ⟨m, false, false, [], 0, 0, 0⟩

theorem Df.run_append : ∀ (a : List Int) (s : Df) (b : List Int), s.run (a ++ b) = (s.run a).run b
  | [], _, _ => rfl
  | c :: a, s, b => Df.run_append a (s.step c) b
theorem Df.pieces_append : ∀ (a : List Int) (s : Df) (b : List Int), s.pieces (a ++ b) = s.pieces a ++ (s.run a).pieces b
  | [], _, _ => rfl
  | c :: a, s, b => by
    show s.piece c ++ (s.step c).pieces (a ++ b) = s.piece c ++ (s.step c).pieces a ++ ((s.step c).run a).pieces b
    rw [Df.pieces_append a, List.append_assoc]

/-- What may be, after N bytes. -/
structure Df.Ok (s : Df) (N : Int) : Prop where
  m0 : 1 ≤ s.most
  m1 : s.most ≤ 65536
  len : (s.now.length : Int) ≤ s.most
  j0 : 0 ≤ s.junk
  j1 : s.junk ≤ N
  o0 : 0 ≤ s.over
  o1 : s.over ≤ N
  b0 : 0 ≤ s.broken
  b1 : s.broken ≤ N
theorem Df.Ok.new {m : Int} (h0 : 1 ≤ m) (h1 : m ≤ 65536) : (Df.new m).Ok 0 :=
  ⟨h0, h1, by show ((0 : Nat) : Int) ≤ m; omega, Int.le_refl _, Int.le_refl _, Int.le_refl _, Int.le_refl _, Int.le_refl _, Int.le_refl _⟩
theorem Df.Ok.mono {s : Df} {N M : Int} (h : s.Ok N) (hn : N ≤ M) : s.Ok M := by
  obtain ⟨a1, a2, a3, a4, a5, a6, a7, a8, a9⟩ := h
  exact ⟨a1, a2, a3, a4, by omega, a6, by omega, a8, by omega⟩
theorem Df.Ok.out {s : Df} {N : Int} (h : s.Ok N) : s.out.Ok N := by
  obtain ⟨a1, a2, a3, a4, a5, a6, a7, a8, a9⟩ := h
  exact ⟨a1, a2, by show ((0 : Nat) : Int) ≤ s.most; omega, a4, a5, a6, a7, a8, a9⟩
theorem Df.Ok.beg {s : Df} {N : Int} (h : s.Ok N) : s.beg.Ok N := by
  obtain ⟨a1, a2, a3, a4, a5, a6, a7, a8, a9⟩ := h
  exact ⟨a1, a2, by show ((0 : Nat) : Int) ≤ s.most; omega, a4, a5, a6, a7, a8, a9⟩
theorem Df.Ok.lay {s : Df} {N : Int} (h : s.Ok N) (b : List Int) : (s.lay b).Ok (N + 1) := by
  obtain ⟨a1, a2, a3, a4, a5, a6, a7, a8, a9⟩ := h
  unfold Df.lay
  split
  · exact ⟨a1, a2, by show ((0 : Nat) : Int) ≤ s.most; omega, a4, by show s.junk ≤ _; omega, by show 0 ≤ s.over + 1; omega, by show s.over + 1 ≤ _; omega, a8, by show s.broken ≤ _; omega⟩
  · rename_i hh
    exact ⟨a1, a2, by show ((s.now ++ b).length : Int) ≤ s.most; omega, a4, by show s.junk ≤ _; omega, a6, by show s.over ≤ _; omega, a8, by show s.broken ≤ _; omega⟩
theorem Df.Ok.fin {s : Df} {N : Int} (h : s.Ok N) (f : Bool) : ({ s with fin := f } : Df).Ok N := by
  obtain ⟨a1, a2, a3, a4, a5, a6, a7, a8, a9⟩ := h
  exact ⟨a1, a2, a3, a4, a5, a6, a7, a8, a9⟩
theorem Df.Ok.broke {s : Df} {N : Int} (h : s.Ok N) : ({ s with broken := s.broken + 1 } : Df).Ok (N + 1) := by
  obtain ⟨a1, a2, a3, a4, a5, a6, a7, a8, a9⟩ := h
  exact ⟨a1, a2, a3, a4, by show s.junk ≤ _; omega, a6, by show s.over ≤ _; omega, by show 0 ≤ s.broken + 1; omega, by show s.broken + 1 ≤ _; omega⟩
theorem Df.Ok.step {s : Df} {N : Int} (h : s.Ok N) (c : Int) : (s.step c).Ok (N + 1) := by
  unfold Df.step
  split
  · unfold Df.take
    split
    · exact h.broke.beg
    · split
      · exact h.out.mono (by omega)
      · split
        · split
          · exact h.lay _
          · exact (h.fin _).mono (by omega)
        · split
          · exact (h.fin _).lay _
          · exact h.lay _
  · unfold Df.skip
    split
    · exact h.beg.mono (by omega)
    · obtain ⟨a1, a2, a3, a4, a5, a6, a7, a8, a9⟩ := h
      exact ⟨a1, a2, a3, by show 0 ≤ s.junk + 1; omega, by show s.junk + 1 ≤ _; omega, a6, by show s.over ≤ _; omega, a8, by show s.broken ≤ _; omega⟩
theorem Df.Ok.run : ∀ (l : List Int) {s : Df} {N : Int}, s.Ok N → (s.run l).Ok (N + l.length)
  | [], s, N, h => by show s.Ok _; exact h.mono (by simp)
  | c :: l, s, N, h => by
    have := Df.Ok.run l (h.step c)
    show ((s.step c).run l).Ok _
    exact this.mono (by simp only [List.length_cons]; omega)

/-! ### memory -/
/-- Bytes, as cells. -/
def enc (l : List Int) : List Value := l.map (Value.int .u8)
theorem enc_length (l : List Int) : (enc l).length = l.length := by simp [enc]
theorem enc_append (a b : List Int) : enc (a ++ b) = enc a ++ enc b := by simp [enc]

/-- Which method is next. -/
def nextIs (p : Nat) (inn : Bool) : Value := .func (.func (if inn then 72 else 70)) #[.pointer (some ⟨p, 0, none⟩)] #[]
/-- A deframer's block. -/
def blk (p : Nat) (s : Df) (nv fv : Value) : Obj :=
  .cells #[.int .i64 s.most, nextIs p s.inn, .bool s.inn, .bool s.fin, nv, fv, .int .i64 s.junk, .int .i64 s.over, .int .i64 s.broken] 96 (0, 0)

/-- Slices of bytes, each of its own block from B on. -/
def Each (B : Nat) (w : World) : List Value → List (List Int) → Prop
  | [], [] => True
  | v :: vs, f :: fs => w.ownsRow B 5 1 v f.length (enc f) ∧ Each B w vs fs
  | _, _ => False

/-- A deframer in the world w, that began (with the row o for its bytes) in the world W: what was found since are fs. -/
structure Dn (W w : World) (p : Nat) (o : Option Nat) (s : Df) (nv fv : Value) (vs : List Value) (fs : List (List Int)) : Prop where
  os : w.os = W.os
  tape : w.tape = W.tape
  output : w.output = W.output
  size : W.heap.size ≤ w.heap.size
  old : ∀ k, k < W.heap.size → k ≠ p → some k ≠ o → w.heap[k]? = W.heap[k]?
  here : w.heap[p]? = some (blk p s nv fv)
  now : w.ownsRow 0 5 1 nv s.now.length (enc s.now)
  nowB : ∀ k, nv.ownBlock = some k → some k = o ∨ W.heap.size ≤ k
  found : w.ownsRow W.heap.size 53 1 fv vs.length vs
  each : Each W.heap.size w vs fs
  part : ∀ v ∈ vs, ∀ k, v.ownBlock = some k → nv.ownBlock ≠ some k
  one : ∀ v ∈ vs, v.oneCell' = true
def DnE (W w : World) (p : Nat) (o : Option Nat) (s : Df) (fs : List (List Int)) : Prop := ∃ nv fv vs, Dn W w p o s nv fv vs fs

/-- Nothing that was there has turned, but block S. -/
structure Kep (S : Nat) (w w' : World) : Prop where
  os : w'.os = w.os
  tape : w'.tape = w.tape
  output : w'.output = w.output
  size : w.heap.size ≤ w'.heap.size
  block : ∀ k, k < w.heap.size → k ≠ S → w'.heap[k]? = w.heap[k]?
theorem Kep.refl (S : Nat) (w : World) : Kep S w w := ⟨rfl, rfl, rfl, Nat.le_refl _, fun _ _ _ => rfl⟩
theorem Kep.trans {S : Nat} {a b c : World} (h : Kep S a b) (k : Kep S b c) : Kep S a c :=
  ⟨k.os.trans h.os, k.tape.trans h.tape, k.output.trans h.output, Nat.le_trans h.size k.size, fun i hi hs => (k.block i (Nat.lt_of_lt_of_le hi h.size) hs).trans (h.block i hi hs)⟩
theorem Kep.of_below {S : Nat} {w w' : World} (h : Below w.heap.size w w') : Kep S w w' := ⟨h.os, h.tape, h.output, h.size, fun k hk _ => h.block k hk⟩
theorem Kep.setCell (S i : Nat) (w : World) (v : Value) : Kep S w (w.setCell ⟨S, i, none⟩ v) :=
  ⟨rfl, rfl, rfl, by simp [World.setCell], fun k _ hs => Below.heap_setCell _ _ _ _ hs⟩

theorem blk_lt {w : World} {S : Nat} {o : Obj} (h : w.heap[S]? = some o) : S < w.heap.size := by
  rcases Nat.lt_or_ge S w.heap.size with h' | h'
  · exact h'
  · simp [Array.getElem?_eq_none h'] at h

/-- What owns a row owns none that has elements of another type. -/
theorem own_ne {w : World} {B e n p : Nat} {v : Value} {xs : List Value} (h : w.ownsRow B e 1 v n xs) {cs : Array Value} {t : Nat} {fr : Nat × Nat} (hp : w.heap[p]? = some (.cells cs t fr)) (ht : t ≠ e) : v.ownBlock ≠ some p := by
  rcases h.2 with ⟨rfl, _⟩ | ⟨g, cap, cur, rfl, _, hg, _⟩
  · simp [Value.ownBlock]
  · intro hk
    simp [Value.ownBlock] at hk
    subst hk
    rw [hg] at hp
    simp at hp
    exact ht hp.2.1.symm
theorem own_stay {w w' : World} {B e n : Nat} {v : Value} {xs : List Value} (h : w.ownsRow B e 1 v n xs) (hk : ∀ k, v.ownBlock = some k → w'.heap[k]? = w.heap[k]?) : w'.ownsRow B e 1 v n xs := by
  refine ⟨h.1, ?_⟩
  rcases h.2 with hn | ⟨g, cap, cur, rfl, hb, hgg, rest⟩
  · exact .inl hn
  · exact .inr ⟨g, cap, cur, rfl, hb, (hk g (by simp [Value.ownBlock])).trans hgg, rest⟩
theorem own_le {w : World} {B B' e n : Nat} {v : Value} {xs : List Value} (h : w.ownsRow B e 1 v n xs) (hb : B' ≤ B) : w.ownsRow B' e 1 v n xs := Joins.ownsRow_le h hb
theorem Each.stay {B : Nat} {w w' : World} : ∀ {vs : List Value} {fs : List (List Int)}, Each B w vs fs → (∀ v ∈ vs, ∀ k, v.ownBlock = some k → B ≤ k → k < w.heap.size → w'.heap[k]? = w.heap[k]?) → Each B w' vs fs
  | [], [], _, _ => trivial
  | v :: vs, f :: fs, h, hk => ⟨own_stay h.1 (fun k e => hk v (by simp) k e (h.1.lt k e).1 (h.1.lt k e).2), Each.stay h.2 (fun u hu => hk u (by simp [hu]))⟩
  | [], _ :: _, h, _ => h.elim
  | _ :: _, [], h, _ => h.elim
theorem Each.le {B B' : Nat} (hb : B' ≤ B) {w : World} : ∀ {vs : List Value} {fs : List (List Int)}, Each B w vs fs → Each B' w vs fs
  | [], [], _ => trivial
  | _ :: _, _ :: _, h => ⟨own_le h.1 hb, Each.le hb h.2⟩
  | [], _ :: _, h => h.elim
  | _ :: _, [], h => h.elim
theorem Each.append {B : Nat} {w : World} : ∀ {vs us : List Value} {fs gs : List (List Int)}, Each B w vs fs → Each B w us gs → Each B w (vs ++ us) (fs ++ gs)
  | [], _, [], _, _, k => k
  | _ :: _, _, _ :: _, _, h, k => ⟨h.1, Each.append h.2 k⟩
  | [], _, _ :: _, _, h, _ => h.elim
  | _ :: _, _, [], _, h, _ => h.elim
theorem Each.len {B : Nat} {w : World} : ∀ {vs : List Value} {fs : List (List Int)}, Each B w vs fs → vs.length = fs.length
  | [], [], _ => rfl
  | _ :: _, _ :: _, h => by simp [Each.len h.2]
  | [], _ :: _, h => h.elim
  | _ :: _, [], h => h.elim
theorem Each.blocks {B : Nat} {w : World} : ∀ {vs : List Value} {fs : List (List Int)}, Each B w vs fs → ∀ v ∈ vs, (∀ k, v.ownBlock = some k → B ≤ k ∧ k < w.heap.size ∧ ∃ cs fr, w.heap[k]? = some (.cells cs 5 fr)) ∧ v.oneCell' = true
  | [], [], _ => by simp
  | _ :: _, _ :: _, h => by
    intro u hu
    rcases List.mem_cons.1 hu with rfl | hu
    · refine ⟨fun k e => ⟨(h.1.lt k e).1, (h.1.lt k e).2, ?_⟩, ?_⟩
      · rcases h.1.2 with ⟨rfl, _⟩ | ⟨g, cap, cur, rfl, _, hg, _⟩
        · simp [Value.ownBlock] at e
        · simp [Value.ownBlock] at e
          subst e
          exact ⟨_, _, hg⟩
      · rcases h.1.2 with ⟨rfl, _⟩ | ⟨g, cap, cur, rfl, _, hg, _⟩ <;> rfl
    · exact Each.blocks h.2 u hu
  | [], _ :: _, h => h.elim
  | _ :: _, [], h => h.elim
theorem Each.at {B : Nat} {w : World} : ∀ {vs : List Value} {fs : List (List Int)}, Each B w vs fs → ∀ (i : Nat) (hi : i < fs.length) (hv : i < vs.length), w.ownsRow B 5 1 vs[i] fs[i].length (enc fs[i])
  | _ :: _, _ :: _, h, 0, _, _ => h.1
  | _ :: _, _ :: _, h, i + 1, hi, hv => Each.at h.2 i (by simpa using hi) (by simpa using hv)
  | [], [], _, _, hi, _ => by simp at hi
  | [], _ :: _, h, _, _, _ => h.elim
  | _ :: _, [], h, _, _, _ => h.elim

section
variable {W w w' : World} {p : Nat} {o : Option Nat} {s s' : Df} {nv fv : Value} {vs : List Value} {fs : List (List Int)}
theorem Dn.drew (h : Dn W w p o s nv fv vs fs) : Dn W w.drew p o s nv fv vs fs := ⟨h.os, h.tape, h.output, h.size, h.old, h.here, h.now, h.nowB, h.found, h.each.stay (fun _ _ _ _ _ _ => rfl), h.part, h.one⟩
/-- A change of the deframer's block alone: the bytes stay. -/
theorem Dn.put (h : Dn W w p o s nv fv vs fs) (k : Kep p w w') (hh : w'.heap[p]? = some (blk p s' nv fv)) (hn : s'.now = s.now) : Dn W w' p o s' nv fv vs fs := by
  have hs := h.size
  refine ⟨k.os.trans h.os, k.tape.trans h.tape, k.output.trans h.output, Nat.le_trans h.size k.size, ?_, hh, ?_, h.nowB, ?_, ?_, h.part, h.one⟩
  · intro i hi hp ho
    exact (k.block i (by omega) hp).trans (h.old i hi hp ho)
  · rw [hn]
    exact own_stay h.now (fun i e => k.block i (h.now.lt i e).2 (fun e' => own_ne h.now h.here (by decide) (e' ▸ e)))
  · exact own_stay h.found (fun i e => k.block i (h.found.lt i e).2 (fun e' => own_ne h.found h.here (by decide) (e' ▸ e)))
  · refine h.each.stay (fun v hv i e hB hi => k.block i hi (fun e' => ?_))
    obtain ⟨_, _, cs, fr, hc⟩ := (h.each.blocks v hv).1 i e
    rw [e', h.here] at hc
    simp [blk] at hc
/-- The same, and the bytes are let go. -/
theorem Dn.drop (h : Dn W w p o s nv fv vs fs) (k : Kep p w w') (hh : w'.heap[p]? = some (blk p s' (.slice none 0 0) fv)) (hn : s'.now = []) : Dn W w' p o s' (.slice none 0 0) fv vs fs := by
  have hs := h.size
  refine ⟨k.os.trans h.os, k.tape.trans h.tape, k.output.trans h.output, Nat.le_trans h.size k.size, ?_, hh, ?_, by simp [Value.ownBlock], ?_, ?_, by simp [Value.ownBlock], h.one⟩
  · intro i hi hp ho
    exact (k.block i (by omega) hp).trans (h.old i hi hp ho)
  · rw [hn]; exact World.ownsRow_nil _ _ _ _
  · exact own_stay h.found (fun i e => k.block i (h.found.lt i e).2 (fun e' => own_ne h.found h.here (by decide) (e' ▸ e)))
  · refine h.each.stay (fun v hv i e hB hi => k.block i hi (fun e' => ?_))
    obtain ⟨_, _, cs, fr, hc⟩ := (h.each.blocks v hv).1 i e
    rw [e', h.here] at hc
    simp [blk] at hc
/-- Nothing that was there has turned. -/
theorem Dn.below (h : Dn W w p o s nv fv vs fs) (k : Below w.heap.size w w') : Dn W w' p o s nv fv vs fs :=
  h.put (Kep.of_below k) ((k.block p (blk_lt h.here)).trans h.here) rfl
end

/-- The cells of a deframer, and that they may be written. -/
structure DfCells (w : World) (p : Nat) (s : Df) (nv fv : Value) : Prop where
  c0 : w.cell? ⟨p, 0, none⟩ = some (.int .i64 s.most)
  c1 : w.cell? ⟨p, 1, none⟩ = some (nextIs p s.inn)
  c2 : w.cell? ⟨p, 2, none⟩ = some (.bool s.inn)
  c3 : w.cell? ⟨p, 3, none⟩ = some (.bool s.fin)
  c4 : w.cell? ⟨p, 4, none⟩ = some nv
  c5 : w.cell? ⟨p, 5, none⟩ = some fv
  c6 : w.cell? ⟨p, 6, none⟩ = some (.int .i64 s.junk)
  c7 : w.cell? ⟨p, 7, none⟩ = some (.int .i64 s.over)
  c8 : w.cell? ⟨p, 8, none⟩ = some (.int .i64 s.broken)
  fr : ∀ i, w.frozen? ⟨p, i, none⟩ = false
theorem cells_of {w : World} {p : Nat} {s : Df} {nv fv : Value} (h : w.heap[p]? = some (blk p s nv fv)) : DfCells w p s nv fv := by
  refine ⟨?_, ?_, ?_, ?_, ?_, ?_, ?_, ?_, ?_, Joins.unfrozen_of_block h⟩ <;> exact Joins.cell_of_block h _
theorem Dn.cells {W w : World} {p : Nat} {o : Option Nat} {s : Df} {nv fv : Value} {vs : List Value} {fs : List (List Int)} (h : Dn W w p o s nv fv vs fs) : DfCells w p s nv fv := cells_of h.here
end Go.Proofs.Ytmollbnhndjjeaa
