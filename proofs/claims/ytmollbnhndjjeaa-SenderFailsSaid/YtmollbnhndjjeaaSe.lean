/- Plain laws of a sender's steps. -/
import Derived.Test.YtmollbnhndjjeaaSd
namespace Go.Proofs.Ytmollbnhndjjeaa
open Go.RowKit

def cf3 (a b t bits : Int) : Cf := ⟨0, kk a, kk b, 1 + kk t, bits.toNat⟩
theorem cf3_fair (a b t bits : Int) : (cf3 a b t bits).Fair := by
  obtain ⟨a0, a1⟩ := kk_range a
  obtain ⟨b0, b1⟩ := kk_range b
  obtain ⟨t0, t1⟩ := kk_range t
  exact ⟨a0, b0, by show kk a ≤ _; omega, by show kk b ≤ _; omega, by show 1 ≤ 1 + kk t; omega, by show 1 + kk t ≤ _; omega⟩
theorem idle_ok {p k r : Int} (h0 : 0 ≤ p) (h1 : p ≤ k) (h2 : k ≤ 1099511627776) (h3 : 0 ≤ r) (h4 : r ≤ 1099511627776) : (St.mk p k 0 0 r).Ok :=
  ⟨h0, h1, h2, h3, h4, by show (0 : Int) ≤ _; omega, .inl ⟨rfl, rfl⟩⟩
theorem fly_ok {p k l r : Int} (h0 : 0 ≤ p) (h1 : p ≤ k) (h2 : k ≤ 1099511627776) (h3 : 0 ≤ r) (h4 : r ≤ 1099511627776) (h5 : 1 ≤ l) (h6 : l ≤ 1099511627776) : (St.mk p k 1 l r).Ok :=
  ⟨h0, h1, h2, h3, h4, h6, .inr (.inl ⟨rfl, h5⟩)⟩
theorem polls_idle {p k r : Int} (h : p < k) : (St.mk p k 0 0 r).polls = true := by unfold St.polls; simp [h]
theorem polls_end {p k l r : Int} (h : ¬ p < k) : (St.mk p k 0 l r).polls = false := by unfold St.polls; simp [h]
theorem poll_idle (c : Cf) {p k r : Int} (h : p < k) : (St.mk p k 0 0 r).poll c = ⟨p, k, 1, c.tmo, r⟩ := by unfold St.poll; rw [if_pos (polls_idle h)]
theorem poll_end (c : Cf) {p k l r : Int} (h : ¬ p < k) : (St.mk p k 0 l r).poll c = ⟨p, k, 0, l, r⟩ := by unfold St.poll; rw [polls_end h]; rfl
theorem pollN_idle {p k r : Int} (h : p < k) : (St.mk p k 0 0 r).pollN = p := by unfold St.pollN; rw [if_pos (polls_idle h)]
theorem pollN_end {p k l r : Int} (h : ¬ p < k) : (St.mk p k 0 l r).pollN = 0 := by unfold St.pollN; rw [polls_end h]; rfl
/-- What a failure leaves, written out. -/
theorem fail_eq (c : Cf) {p k t l r : Int} (hr : r + 1 ≤ 1099511627776) : (St.mk p k t l r).fail c = ⟨p, k, if c.del r = 0 then 0 else 2, c.del r, r + 1⟩ := by
  unfold St.fail St.rest
  show St.mk p k _ _ (min (r + 1) 1099511627776) = _
  rw [show min (r + 1) 1099511627776 = r + 1 from by omega]
/-- A rest goes by. -/
theorem tick_rest (c : Cf) {p k d r : Int} (h0 : 0 ≤ d) : (St.mk p k (if d = 0 then 0 else 2) d r).tick c d = ⟨p, k, 0, 0, r⟩ := by
  unfold St.tick
  rw [if_neg (by omega)]
  by_cases h : d = 0
  · subst h; rfl
  · rw [if_neg h]
    show (if (2 : Int) = 1 then _ else St.lapse _ d) = _
    rw [if_neg (by decide)]
    unfold St.lapse St.rest
    show (if (2 : Int) = 2 then _ else _) = _
    rw [if_pos rfl]
    have e : max 0 (d - d) = 0 := by omega
    simp only [e, if_true]
theorem drop_fly (c : Cf) {p k l r : Int} : (St.mk p k 1 l r).drop c = (St.mk p k 1 l r).fail c := rfl
theorem drop_idle (c : Cf) {p k l r : Int} : (St.mk p k 0 l r).drop c = ⟨p, k, 0, l, r⟩ := rfl
theorem tick_idle (c : Cf) {p k r n : Int} : (St.mk p k 0 0 r).tick c n = ⟨p, k, 0, 0, r⟩ := by
  unfold St.tick
  split
  · rfl
  · rfl
theorem tick_fly (c : Cf) {p k l r n : Int} (h0 : 0 ≤ n) (h : n < l) : (St.mk p k 1 l r).tick c n = ⟨p, k, 1, l - n, r⟩ := by
  unfold St.tick
  rw [if_neg (by omega)]
  show (if (1 : Int) = 1 then (if n < l then _ else _) else _) = _
  rw [if_pos rfl, if_pos h]
theorem tick_over (c : Cf) {p k l r n : Int} (h0 : 0 ≤ n) (h : l ≤ n) : (St.mk p k 1 l r).tick c n = ((St.mk p k 1 l r).fail c).lapse (n - l) := by
  unfold St.tick
  rw [if_neg (by omega)]
  show (if (1 : Int) = 1 then (if n < l then _ else _) else _) = _
  rw [if_pos rfl, if_neg (by omega)]
theorem answer_right (c : Cf) {p k l r : Int} : (St.mk p k 1 l r).answer c true = ⟨p + 1, k, 0, 0, 0⟩ := rfl
theorem answer_wrong (c : Cf) {p k l r : Int} : (St.mk p k 1 l r).answer c false = (St.mk p k 1 l r).fail c := rfl
theorem offer_first {p k n : Int} (h : k ≤ n) (h1 : n ≤ 1099511627776) {t l r : Int} : (St.mk p k t l r).offer n = ⟨p, n, t, l, r⟩ := by
  unfold St.offer St.offerOk
  rw [if_pos (by simp only [decide_eq_true_eq]; exact ⟨h, h1⟩)]
theorem offerE_ok {s : St} {n : Int} (h : s.known ≤ n) (h1 : n ≤ 1099511627776) : s.offerE n = 0 := by
  unfold St.offerE St.offerOk
  rw [if_pos (by simp only [decide_eq_true_eq]; exact ⟨h, h1⟩)]
theorem offerE_low {s : St} {n : Int} (h : n < s.known) : s.offerE n = 3 := by
  unfold St.offerE St.offerOk
  rw [if_neg (by simp only [decide_eq_true_eq]; omega)]
theorem offer_low {s : St} {n : Int} (h : n < s.known) : s.offer n = s := by
  unfold St.offer St.offerOk
  rw [if_neg (by simp only [decide_eq_true_eq]; omega)]
theorem tickE_pos {n : Int} (h : 0 ≤ n) : tickE n = 0 := by unfold tickE; rw [if_neg (by omega)]
end Go.Proofs.Ytmollbnhndjjeaa
