/- What the rows' last steps share: how arguments are opened. -/
import Derived.Test.YtmollbnhndjjeaaRows
import Derived.WalkKit
import Derived.ProofKit
import Derived.OpenShut
import Derived.ShutString
import Derived.ChangeOld
import Derived.Below
namespace Go.Proofs.Ytmollbnhndjjeaa.Fr
open Go.ChangeShapes Go.WideShapes Go.ChangeAt Go.RowKit

theorem own : ownKnob Try.prog.godebug = none := by kernel_rfl
theorem laidOut : laidOutB Try.prog = true := by kernel_rfl

section
variable {H : Type} {enc : TypeId × Value → H} {w : World} {base b0 : Nat} {spare : Nat → Bool} {held : Bool} {r : Reach} {v : Value} {d : DataW H} {p : List MemPlace}

/-- An array of integers that came in, cell by cell. -/
theorem open_arr {t e n : Nat} {k : IntKind} (ht : Try.prog.underlying t = some (.array n e)) (he : Try.prog.underlying e = some (.int k)) (hc : Try.prog.cellsOf t = n) (hce : Try.prog.cellsOf e = 1)
    (hv : Value.okWide Try.prog w r b0 t v) (h : DataW.Trod enc Try.prog w base spare held t v d p) :
    ∃ cs : Array Value, v = .agg cs ∧ cs.size = n ∧ ∀ i, i < n → ∃ x : Int, cs[i]? = some (.int k x) ∧ (Lit.int k x).wf = true := by
  unfold Value.okWide at hv
  rw [ht] at hv
  obtain ⟨cs, rfl, hsz, _⟩ := hv
  obtain ⟨fuel, hf⟩ := h
  refine ⟨cs, rfl, hsz.trans hc, fun i hi => ?_⟩
  obtain ⟨xs, m, _, _, hl, hxl, hx⟩ := DataW.trod_array ht hf
  have g := hx i hi
  rw [hce, Nat.mul_one, List.getElem?_eq_getElem (by omega)] at g
  have hlt : i < cs.toList.length := by simp; omega
  have e1 : (((Value.agg cs).cells.toList).drop i).take 1 = [cs[i]'(by omega)] := by
    show (cs.toList.drop i).take 1 = _
    rw [List.drop_eq_getElem_cons hlt]; simp
  rw [e1] at g
  obtain ⟨x, hcs, _, hwf⟩ := DataW.trod_int he g
  simp only [List.cons.injEq, and_true] at hcs
  exact ⟨x, by rw [Array.getElem?_eq_getElem (by omega), hcs], hwf⟩

theorem open_arr2 (hv : Value.okWide Try.prog w r b0 31 v) (h : DataW.Trod enc Try.prog w base spare held 31 v d p) :
    ∃ a b : Int, v = .agg #[.int .i64 a, .int .i64 b] ∧ (Lit.int .i64 a).wf = true ∧ (Lit.int .i64 b).wf = true := by
  obtain ⟨cs, rfl, hs, hx⟩ := open_arr Try.underlying31 Try.underlying3 (by kernel_rfl) (by kernel_rfl) hv h
  obtain ⟨a, ha, wa⟩ := hx 0 (by omega)
  obtain ⟨b, hb, wb⟩ := hx 1 (by omega)
  refine ⟨a, b, ?_, wa, wb⟩
  congr 1
  apply Array.ext_getElem?
  intro i
  match i with
  | 0 => exact ha
  | 1 => exact hb
  | i + 2 => rw [Array.getElem?_eq_none (by omega), Array.getElem?_eq_none (by simp)]
theorem open_arr3 (hv : Value.okWide Try.prog w r b0 37 v) (h : DataW.Trod enc Try.prog w base spare held 37 v d p) :
    ∃ a b c : Int, v = .agg #[.int .i64 a, .int .i64 b, .int .i64 c] ∧ (Lit.int .i64 a).wf = true ∧ (Lit.int .i64 b).wf = true ∧ (Lit.int .i64 c).wf = true := by
  obtain ⟨cs, rfl, hs, hx⟩ := open_arr Try.underlying37 Try.underlying3 (by kernel_rfl) (by kernel_rfl) hv h
  obtain ⟨a, ha, wa⟩ := hx 0 (by omega)
  obtain ⟨b, hb, wb⟩ := hx 1 (by omega)
  obtain ⟨c, hc, wc⟩ := hx 2 (by omega)
  refine ⟨a, b, c, ?_, wa, wb, wc⟩
  congr 1
  apply Array.ext_getElem?
  intro i
  match i with
  | 0 => exact ha
  | 1 => exact hb
  | 2 => exact hc
  | i + 3 => rw [Array.getElem?_eq_none (by omega), Array.getElem?_eq_none (by simp)]
theorem open_arr2u8 (hv : Value.okWide Try.prog w r b0 38 v) (h : DataW.Trod enc Try.prog w base spare held 38 v d p) :
    ∃ a b : Int, v = .agg #[.int .u8 a, .int .u8 b] ∧ (Lit.int .u8 a).wf = true ∧ (Lit.int .u8 b).wf = true := by
  obtain ⟨cs, rfl, hs, hx⟩ := open_arr Try.underlying38 Try.underlying5 (by kernel_rfl) (by kernel_rfl) hv h
  obtain ⟨a, ha, wa⟩ := hx 0 (by omega)
  obtain ⟨b, hb, wb⟩ := hx 1 (by omega)
  refine ⟨a, b, ?_, wa, wb⟩
  congr 1
  apply Array.ext_getElem?
  intro i
  match i with
  | 0 => exact ha
  | 1 => exact hb
  | i + 2 => rw [Array.getElem?_eq_none (by omega), Array.getElem?_eq_none (by simp)]
end

/-- A slice of integers that came in: as many elements as it is long. -/
def IsInts (k : IntKind) (w : World) (a : Option Addr) (len cap : Nat) (zs : List Int) : Prop :=
  zs.length = len ∧ len ≤ cap ∧ cap ≤ maxLen ∧ (∀ n ∈ zs, (Lit.int k n).wf = true) ∧ (0 < len → ∃ b o, a = some ⟨b, o, none⟩ ∧ b < w.heap.size ∧ ∀ i, i < len → w.cell? ⟨b, o + i, none⟩ = some (.int k (zs.getD i 0)))

section
variable {H : Type} {enc : TypeId × Value → H} {w : World} {b0 : Nat} {r : Reach} {v : Value} {d : DataW H} {p : List MemPlace}
theorem open_slice_ints {t e : Nat} {k : IntKind} (ht : Try.prog.underlying t = some (.slice e)) (he : Try.prog.underlying e = some (.int k)) (hce : Try.prog.cellsOf e = 1)
    (hv : Value.okWide Try.prog w r b0 t v) (h : DataW.Trod enc Try.prog w 0 (fun _ => true) true t v d p) :
    ∃ (a : Option Addr) (len cap : Nat) (zs : List Int), v = .slice a len cap ∧ IsInts k w a len cap zs := by
  obtain ⟨a, len, cap, rfl⟩ := okWide_slice ht hv
  have lt : ∀ x ∈ p, x.block < w.heap.size := by obtain ⟨m, hm⟩ := h; exact DataW.trod_lt m _ _ _ hm
  obtain ⟨fuel, hf⟩ := h
  refine ⟨a, len, cap, ?_⟩
  rcases open_ints ht he hce hf with ⟨hcs, _⟩ | ⟨x, l, c, zs, hcs, _, hl, hm, hz, hx, hcell, hwz⟩
  · simp [Value.cells] at hcs
    obtain ⟨rfl, rfl, rfl⟩ := hcs
    exact ⟨[], rfl, rfl, Nat.le_refl _, Nat.zero_le _, by simp, fun h => absurd h (by omega)⟩
  · simp [Value.cells] at hcs
    obtain ⟨rfl, rfl, rfl⟩ := hcs
    have hz' : zs.length = cap := by simpa using hz
    refine ⟨zs.take len, rfl, by simp; omega, hl, hm, fun n hn => hwz n (List.mem_of_mem_take hn), fun h0 => ?_⟩
    obtain ⟨b, o, spot⟩ := x
    have hs : spot = none := by simpa [Addr.add] using World.cell?_spot (hcell 0 (by omega))
    subst hs
    refine ⟨b, o, rfl, World.block_lt_of_cell? w _ (hcell 0 (by omega)), fun i hi => ?_⟩
    have hc := hcell i (by omega)
    have ha : (⟨b, o, none⟩ : Addr).add i = ⟨b, o + i, none⟩ := by unfold Addr.add; split <;> simp_all
    rw [ha] at hc
    rw [hc]
    congr 2
    simp [List.getD, hi]
theorem open_bytes (hv : Value.okWide Try.prog w r b0 53 v) (h : DataW.Trod enc Try.prog w 0 (fun _ => true) true 53 v d p) :
    ∃ (a : Option Addr) (len cap : Nat) (zs : List Int), v = .slice a len cap ∧ IsInts .u8 w a len cap zs := open_slice_ints Try.underlying53 Try.underlying5 (by kernel_rfl) hv h
theorem open_ints_ (hv : Value.okWide Try.prog w r b0 59 v) (h : DataW.Trod enc Try.prog w 0 (fun _ => true) true 59 v d p) :
    ∃ (a : Option Addr) (len cap : Nat) (zs : List Int), v = .slice a len cap ∧ IsInts .i64 w a len cap zs := open_slice_ints Try.underlying59 Try.underlying3 (by kernel_rfl) hv h
end
end Go.Proofs.Ytmollbnhndjjeaa.Fr
