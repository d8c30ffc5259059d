/- What the reference's Part and Rest answer, by given results. -/
import Derived.Test.YtkceeifhnohioaaRefPart
import Derived.Test.YtkceeifhnohioaaPartIs
namespace Go.Proofs.Ytkceeifhnohioaa.Exact
open Go.RowKit Go.Proofs.Ytkceeifhnohioaa.Cents
set_option linter.unusedVariables false
set_option linter.unusedSimpArgs false

theorem rpart_bad (a p m : Int) (w : World) (h : m < 1 ∨ p < 0) :
    Calls Try.prog 36 #[.int .i64 a, .int .i64 p, .int .i64 m] w fun e w' => e = .returned (.tuple #[.int .i64 0, .int .i64 1]) ∧ Below w.heap.size w w' := by
  by_cases c : m < 1
  · clear h
    go_enter Try.func36, Try.ntmps36
    go_wp2_with fail
    go_ret2
    exact ⟨rfl, Below.refl _ _⟩
  · have d : p < 0 := by omega
    clear h
    go_enter Try.func36, Try.ntmps36
    go_wp2_with fail
    go_ret2
    exact ⟨rfl, Below.refl _ _⟩
theorem rrest_bad (a p m : Int) (w : World) (h : m < 1 ∨ p < 0) :
    Calls Try.prog 37 #[.int .i64 a, .int .i64 p, .int .i64 m] w fun e w' => e = .returned (.tuple #[.int .i64 0, .int .i64 1]) ∧ Below w.heap.size w w' := by
  by_cases c : m < 1
  · clear h
    go_enter Try.func37, Try.ntmps37
    go_wp2_with fail
    go_ret2
    exact ⟨rfl, Below.refl _ _⟩
  · have d : p < 0 := by omega
    clear h
    go_enter Try.func37, Try.ntmps37
    go_wp2_with fail
    go_ret2
    exact ⟨rfl, Below.refl _ _⟩
theorem rpart_is (a p m x y : Int) (w : World) (ha : I64 a) (hp : I64 p) (hm : I64 m) (h : partN a p m = x ∧ partE a p m = y) :
    Calls Try.prog 36 #[.int .i64 a, .int .i64 p, .int .i64 m] w fun e w' => e = .returned (.tuple #[.int .i64 x, .int .i64 y]) ∧ Below w.heap.size w w' := by
  unfold partN partE at h
  by_cases c : m < 1 ∨ p < 0
  · rw [if_pos c, if_pos c] at h
    rw [← h.1, ← h.2]; exact rpart_bad a p m w c
  · rw [if_neg c, if_neg c] at h
    exact rpart_ok a p m w ha hp hm (by omega) (by omega) x y h
theorem rrest_is (a p m x y : Int) (w : World) (ha : I64 a) (hp : I64 p) (hm : I64 m) (h : restN a p m = x ∧ restE a p m = y) :
    Calls Try.prog 37 #[.int .i64 a, .int .i64 p, .int .i64 m] w fun e w' => e = .returned (.tuple #[.int .i64 x, .int .i64 y]) ∧ Below w.heap.size w w' := by
  unfold restN restE at h
  by_cases c : m < 1 ∨ p < 0
  · rw [if_pos c, if_pos c] at h
    rw [← h.1, ← h.2]; exact rrest_bad a p m w c
  · rw [if_neg c, if_neg c] at h
    have h1 := Int.emod_nonneg (a * p) (show m ≠ 0 by omega)
    have h2 := Int.emod_lt_of_pos (a * p) (show 0 < m by omega)
    have h3 : I64 (a * p % m) := ⟨by omega, by have := hm.2; omega⟩
    exact rrest_ok a p m w ha hp hm (by omega) (by omega) x y (by unfold fitN fitE; rw [if_pos h3, if_pos h3]; exact h)
end Go.Proofs.Ytkceeifhnohioaa.Exact
