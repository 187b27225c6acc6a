/- The walk of layer 16's example. -/
import Derived.Test.YtmollbnhndjjeaaSc
namespace Go.Proofs.Ytmollbnhndjjeaa
open Go.RowKit

def xc : Cf := ⟨0, 3, 20, 5, 4611686018427387904⟩
def x0 : St := ⟨0, 0, 0, 0, 0⟩
def x1 : St := ⟨0, 2, 0, 0, 0⟩
def x2 : St := ⟨0, 2, 1, 5, 0⟩
def x3 : St := ⟨0, 2, 2, 2, 1⟩
def x4 : St := ⟨0, 2, 0, 0, 1⟩
def x5 : St := ⟨0, 2, 1, 5, 1⟩
def x6 : St := ⟨1, 2, 0, 0, 0⟩
theorem xe1 : x0.offer 2 = x1 := by kernel_rfl
theorem xe2 : x1.poll xc = x2 := by kernel_rfl
theorem xe3 : x2.tick xc 6 = x3 := by kernel_rfl
theorem xe4 : x3.tick xc 2 = x4 := by kernel_rfl
theorem xe5 : x4.poll xc = x5 := by kernel_rfl
theorem xe6 : x5.answer xc true = x6 := by kernel_rfl
theorem xc_fair : xc.Fair := ⟨by decide, by decide, by decide, by decide, by decide, by decide⟩
theorem x_ok1 : x1.Ok := ⟨by decide, by decide, by decide, by decide, by decide, by decide, .inl ⟨rfl, rfl⟩⟩
theorem x_ok2 : x2.Ok := ⟨by decide, by decide, by decide, by decide, by decide, by decide, .inr (.inl ⟨rfl, by decide⟩)⟩
theorem x_ok3 : x3.Ok := ⟨by decide, by decide, by decide, by decide, by decide, by decide, .inr (.inr ⟨rfl, by decide⟩)⟩
theorem x_ok4 : x4.Ok := ⟨by decide, by decide, by decide, by decide, by decide, by decide, .inl ⟨rfl, rfl⟩⟩
theorem x_ok5 : x5.Ok := ⟨by decide, by decide, by decide, by decide, by decide, by decide, .inr (.inl ⟨rfl, by decide⟩)⟩

set_option maxRecDepth 100000 in
set_option maxHeartbeats 1000000 in
theorem alive16 (w : World) : Calls Try.prog 26 #[] w fun e w' => e = .returned (.bool true) ∧ Below w.heap.size w w' := by
  go_enter Try.func26, Try.ntmps26
  go_wp2_with fail
  refine (new_ok xc 0 _ xc_fair (by omega) (by omega)).mono ?_
  rintro e w1 ⟨S, rfl, h0, B0, hS⟩
  have H0 : Hid (SndAt w1 S xc x0) := Lib.hid h0
  clear h0
  go_wp2_with fail
  refine (offer_walk _ _ _ _ _ H0.out).mono ?_
  rintro e w2 ⟨rfl, h1, k1⟩
  rw [xe1] at h1
  have H1 := Lib.hid h1
  have B1 := below_kept B0 B0.size k1 hS
  clear h1 k1 H0 B0
  go_wp2_with fail
  refine (poll_walk _ _ _ _ H1.out x_ok1).mono ?_
  rintro e w3 ⟨rfl, h1, k1⟩
  rw [xe2] at h1
  rw [show x1.pollN = 0 from rfl, show x1.polls = true from rfl]
  have H2 := Lib.hid h1
  have B2 := below_kept B1 B1.size k1 hS
  clear h1 k1 H1 B1
  go_wp2_with fail
  refine (tick_walk _ _ _ _ _ (by omega) H2.out xc_fair x_ok2).mono ?_
  rintro e w4 ⟨rfl, h1, k1⟩
  rw [xe3] at h1
  have H3 := Lib.hid h1
  have B3 := below_kept B2 B2.size k1 hS
  clear h1 k1 H2 B2
  go_wp2_with fail
  refine (left_walk _ _ _ _ H3.out).mono ?_
  rintro e w5 ⟨rfl, rfl⟩
  rw [show x3.left = 2 from rfl]
  go_wp2_with fail
  refine (tick_walk _ _ _ _ _ (by omega) H3.out xc_fair x_ok3).mono ?_
  rintro e w6 ⟨rfl, h1, k1⟩
  rw [xe4] at h1
  have H4 := Lib.hid h1
  have B4 := below_kept B3 B3.size k1 hS
  clear h1 k1 H3 B3
  go_wp2_with fail
  refine (poll_walk _ _ _ _ H4.out x_ok4).mono ?_
  rintro e w7 ⟨rfl, h1, k1⟩
  rw [xe5] at h1
  rw [show x4.pollN = 0 from rfl, show x4.polls = true from rfl]
  have H5 := Lib.hid h1
  have B5 := below_kept B4 B4.size k1 hS
  clear h1 k1 H4 B4
  go_wp2_with fail
  refine (tries_walk _ _ _ _ H5.out).mono ?_
  rintro e w8 ⟨rfl, rfl⟩
  rw [show x5.tries = 1 from rfl]
  go_wp2_with fail
  refine (answer_walk _ _ _ _ _ H5.out xc_fair x_ok5).mono ?_
  rintro e w9 ⟨rfl, h1, k1⟩
  rw [xe6] at h1
  rw [show (x5.fly && true) = true from rfl]
  have H6 := Lib.hid h1
  have B6 := below_kept B5 B5.size k1 hS
  clear h1 k1 H5 B5
  go_wp2_with fail
  refine (at_walk _ _ _ _ H6.out).mono ?_
  rintro e w10 ⟨rfl, rfl⟩
  rw [show x6.pos = 1 from rfl]
  go_wp2_with fail
  refine (flying_walk _ _ _ _ H6.out).mono ?_
  rintro e w10 ⟨rfl, rfl⟩
  rw [show x6.fly = false from rfl]
  go_wp2_with fail
  go_ret
  exact ⟨rfl, B6⟩
end Go.Proofs.Ytmollbnhndjjeaa
