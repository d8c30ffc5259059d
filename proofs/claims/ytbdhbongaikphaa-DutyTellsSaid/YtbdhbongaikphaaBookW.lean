/- The walk of book.wrong. -/
import Derived.Test.YtbdhbongaikphaaBookB
namespace Go.Proofs.Ytbdhbongaikphaa.BK
open Go.RowKit Go.Proofs.Ytbdhbongaikphaa.Cents
set_option linter.unusedVariables false
set_option linter.unusedSimpArgs false

def wrongI (x : It) : Bool := decide (x.tag < 0) || decide (2 < x.tag) || decide (x.group < 0) || decide (99 < x.group) || decide (x.method < 0) || decide (3 < x.method) || decide (x.price < 1)
set_option maxRecDepth 100000 in
theorem wrong_any (x : It) (w : World) (b : Bool) (hb : wrongI x = b) : Calls Try.prog 18 #[x.val] w fun e w' => e = .returned (.bool b) ∧ Below w.heap.size w w' := by
  unfold wrongI at hb
  obtain ⟨a, g, m, p⟩ := x
  dsimp only [It.val] at hb ⊢
  by_cases c0 : a < 0
  · have hb1 : true = b := by rw [← hb]; simp [c0]
    have HB := Lib.hid hb1
    subst hb1
    clear hb HB
    go_enter Try.func18, Try.ntmps18
    go_wp2_with fail
    go_ret
    exact ⟨rfl, alloc1 _ _⟩
  by_cases c1 : 2 < a
  · have hb1 : true = b := by rw [← hb]; simp [c1]
    have HB := Lib.hid hb1
    subst hb1
    clear hb HB
    go_enter Try.func18, Try.ntmps18
    go_wp2_with fail
    go_ret
    exact ⟨rfl, alloc1 _ _⟩
  by_cases c2 : g < 0
  · have hb1 : true = b := by rw [← hb]; simp [c2]
    have HB := Lib.hid hb1
    subst hb1
    clear hb HB
    go_enter Try.func18, Try.ntmps18
    go_wp2_with fail
    go_ret
    exact ⟨rfl, alloc1 _ _⟩
  by_cases c3 : 99 < g
  · have hb1 : true = b := by rw [← hb]; simp [c3]
    have HB := Lib.hid hb1
    subst hb1
    clear hb HB
    go_enter Try.func18, Try.ntmps18
    go_wp2_with fail
    go_ret
    exact ⟨rfl, alloc1 _ _⟩
  by_cases c4 : m < 0
  · have hb1 : true = b := by rw [← hb]; simp [c4]
    have HB := Lib.hid hb1
    subst hb1
    clear hb HB
    go_enter Try.func18, Try.ntmps18
    go_wp2_with fail
    go_ret
    exact ⟨rfl, alloc1 _ _⟩
  by_cases c5 : 3 < m
  · have hb1 : true = b := by rw [← hb]; simp [c5]
    have HB := Lib.hid hb1
    subst hb1
    clear hb HB
    go_enter Try.func18, Try.ntmps18
    go_wp2_with fail
    go_ret
    exact ⟨rfl, alloc1 _ _⟩
  by_cases c6 : p < 1
  · have hb1 : true = b := by rw [← hb]; simp [c6]
    have HB := Lib.hid hb1
    subst hb1
    clear hb HB
    go_enter Try.func18, Try.ntmps18
    go_wp2_with fail
    go_ret
    exact ⟨rfl, alloc1 _ _⟩
  have hb1 : false = b := by rw [← hb]; simp [c0, c1, c2, c3, c4, c5, c6]
  subst hb1
  clear hb
  go_enter Try.func18, Try.ntmps18
  go_wp2_with fail
  go_ret
  exact ⟨rfl, alloc1 _ _⟩
end Go.Proofs.Ytbdhbongaikphaa.BK
