/- A slice of acts that came in; which states a sender may come to. -/
import Derived.Test.YtmollbnhndjjeaaSe
import Derived.Test.YtmollbnhndjjeaaFr
import Derived.Deep.SlicePairs
namespace Go.Proofs.Ytmollbnhndjjeaa
open Go.ChangeShapes Go.WideShapes Go.ChangeAt Go.RowKit

namespace Fr
def IsActs (w : World) (a : Option Addr) (len cap : Nat) (zs : List (Int × Int)) : Prop :=
  zs.length = len ∧ len ≤ cap ∧ cap ≤ maxLen ∧ (∀ z ∈ zs, (Lit.int .i64 z.1).wf = true ∧ (Lit.int .i64 z.2).wf = true) ∧ (0 < len → ∃ b o, a = some ⟨b, o, none⟩ ∧ b < w.heap.size ∧ ∀ i, i < len → w.cell? ⟨b, o + i * 2, none⟩ = some (.int .i64 (zs.getD i (0, 0)).1) ∧ w.cell? ⟨b, o + i * 2 + 1, none⟩ = some (.int .i64 (zs.getD i (0, 0)).2))
section
variable {H : Type} {enc : TypeId × Value → H} {w : World} {b0 : Nat} {r : Reach} {v : Value} {d : DataW H} {p : List MemPlace}
theorem open_acts (hv : Value.okWide Try.prog w r b0 76 v) (h : DataW.Trod enc Try.prog w 0 (fun _ => true) true 76 v d p) :
    ∃ (a : Option Addr) (len cap : Nat) (zs : List (Int × Int)), v = .slice a len cap ∧ IsActs w a len cap zs := by
  obtain ⟨a, len, cap, rfl⟩ := okWide_slice Try.underlying76 hv
  obtain ⟨fuel, hf⟩ := h
  refine ⟨a, len, cap, ?_⟩
  rcases Deep.open_slice_pairs Try.underlying76 Try.underlying78 (by kernel_rfl) (by kernel_rfl) (by kernel_rfl) (by kernel_rfl) (by kernel_rfl) hf with ⟨hcs, _⟩ | ⟨x, l, c, m, n, V0, V1, D0, D1, P0, P1, hcs, _, hl, hm, hmm, _, hx⟩
  · simp [Value.cells] at hcs
    obtain ⟨rfl, rfl, rfl⟩ := hcs
    exact ⟨[], rfl, rfl, Nat.le_refl _, Nat.zero_le _, by simp, fun h => absurd h (by omega)⟩
  · simp [Value.cells] at hcs
    obtain ⟨rfl, rfl, rfl⟩ := hcs
    have hmc : m = cap := by rw [hmm]; simp
    have hints : ∀ i, i < len → ∃ z : Int × Int, V0 i = .int .i64 z.1 ∧ V1 i = .int .i64 z.2 ∧ (Lit.int .i64 z.1).wf = true ∧ (Lit.int .i64 z.2).wf = true := by
      intro i hi
      obtain ⟨_, _, t0, t1⟩ := hx i (by omega)
      obtain ⟨n0, e0, _, w0⟩ := DataW.trod_int Try.underlying3 t0
      obtain ⟨n1, e1, _, w1⟩ := DataW.trod_int Try.underlying3 t1
      simp only [List.cons.injEq, and_true] at e0 e1
      exact ⟨(n0, n1), e0, e1, w0, w1⟩
    have hex : ∃ q : Nat → Int × Int, ∀ i, i < len → V0 i = .int .i64 (q i).1 ∧ V1 i = .int .i64 (q i).2 ∧ (Lit.int .i64 (q i).1).wf = true ∧ (Lit.int .i64 (q i).2).wf = true :=
      ⟨fun i => if h : i < len then Classical.choose (hints i h) else (0, 0), fun i hi => by simp only [dif_pos hi]; exact Classical.choose_spec (hints i hi)⟩
    obtain ⟨q, hq⟩ := hex
    refine ⟨(List.range len).map q, rfl, by simp, hl, hm, ?_, fun h0 => ?_⟩
    · intro z hz
      obtain ⟨i, hi, rfl⟩ := List.mem_map.1 hz
      exact (hq i (List.mem_range.1 hi)).2.2
    · obtain ⟨b, o, spot⟩ := x
      have h00 := (hx 0 (by omega)).1
      have hs : spot = none := by simpa [Addr.add] using World.cell?_spot h00
      subst hs
      have ha : ∀ j, (⟨b, o, none⟩ : Addr).add j = ⟨b, o + j, none⟩ := fun j => by unfold Addr.add; split <;> simp_all
      refine ⟨b, o, rfl, ?_, fun i hi => ?_⟩
      · have := World.block_lt_of_cell? w _ h00
        exact this
      · obtain ⟨e0, e1, _⟩ := hx i (by omega)
        obtain ⟨f0, f1, _⟩ := hq i hi
        rw [ha, f0] at e0
        rw [ha, f1] at e1
        have e2 : ((List.range len).map q).getD i (0, 0) = q i := by simp [List.getD, hi]
        rw [e2]
        exact ⟨e0, by rw [Nat.add_assoc]; exact e1⟩
end
end Fr

/-- A state that may be: while the record is in flight there is one. -/
structure St.Good (s : St) : Prop where
  ok : s.Ok
  live : s.kind = 1 → s.pos < s.known
theorem St.Good.start : (St.mk 0 0 0 0 0).Good := ⟨idle_ok (by omega) (by omega) (by omega) (by omega) (by omega), fun h => absurd h (by decide)⟩
theorem St.fail_not (c : Cf) (s : St) : ¬ (s.fail c).kind = 1 := by
  rcases St.fail_fly' c s with h | h <;> rw [h] <;> decide
where St.fail_fly' (c : Cf) (s : St) : (s.fail c).kind = 0 ∨ (s.fail c).kind = 2 := St.fail_fly c s
theorem St.lapse_not (s : St) (n : Int) (h : ¬ s.kind = 1) : ¬ (s.lapse n).kind = 1 := by
  unfold St.lapse
  split
  · unfold St.rest
    show ¬ (if _ then (0 : Int) else 2) = 1
    split <;> decide
  · exact h
theorem St.Good.fail {c : Cf} {s : St} (hc : c.Fair) (h : s.Good) : (s.fail c).Good := ⟨h.ok.fail hc, fun hk => absurd hk (St.fail_not c s)⟩
theorem St.Good.offer {s : St} (h : s.Good) {n : Int} : (s.offer n).Good := by
  refine ⟨h.ok.offer, ?_⟩
  unfold St.offer
  split
  · rename_i hn
    unfold St.offerOk at hn
    simp only [decide_eq_true_eq] at hn
    intro hk
    have := h.live hk
    show s.pos < n
    omega
  · exact h.live
theorem St.Good.poll {c : Cf} {s : St} (hc : c.Fair) (h : s.Good) : (s.poll c).Good := by
  refine ⟨h.ok.poll hc, ?_⟩
  unfold St.poll
  split
  · rename_i hp
    intro _
    unfold St.polls at hp
    simp only [Bool.and_eq_true, decide_eq_true_eq] at hp
    exact hp.2
  · exact h.live
theorem St.Good.answer {c : Cf} {s : St} (hc : c.Fair) (h : s.Good) {ok : Bool} : (s.answer c ok).Good := by
  refine ⟨h.ok.answer hc (fun hf => h.live (St.fly_iff.1 hf)), ?_⟩
  unfold St.answer
  split
  · split
    · intro hk; exact absurd hk (by show ¬ (0 : Int) = 1; decide)
    · intro hk; exact absurd hk (St.fail_not c s)
  · exact h.live
theorem St.Good.drop {c : Cf} {s : St} (hc : c.Fair) (h : s.Good) : (s.drop c).Good := by
  unfold St.drop
  split
  · exact h.fail hc
  · exact h
theorem St.Good.tick {c : Cf} {s : St} (hc : c.Fair) (h : s.Good) {n : Int} : (s.tick c n).Good := by
  refine ⟨h.ok.tick hc, ?_⟩
  unfold St.tick
  split
  · exact h.live
  · split
    · rename_i hk
      split
      · intro _; exact h.live hk
      · intro hk2; exact absurd hk2 (St.lapse_not _ _ (St.fail_not c s))
    · rename_i hk
      intro hk2; exact absurd hk2 (St.lapse_not _ _ hk)
end Go.Proofs.Ytmollbnhndjjeaa
