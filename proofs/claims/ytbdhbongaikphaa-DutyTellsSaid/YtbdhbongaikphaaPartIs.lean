/- What cents' functions answer, by given results. -/
import Derived.Test.YtbdhbongaikphaaCentsPart
import Derived.Test.YtbdhbongaikphaaSum
namespace Go.Proofs.Ytbdhbongaikphaa.Cents
open Go.RowKit
set_option linter.unusedVariables false
set_option linter.unusedSimpArgs false

theorem Quiet.below {w w' : World} (h : Quiet w w') : Below w.heap.size w w' := by
  obtain ⟨n, rfl⟩ := h
  exact ⟨rfl, rfl, rfl, Nat.le_refl _, fun _ _ => rfl⟩
theorem Quiet.trans {a b c : World} (h : Quiet a b) (k : Quiet b c) : Quiet a c := by
  obtain ⟨n, rfl⟩ := h
  obtain ⟨m, rfl⟩ := k
  exact ⟨n + m, World.drewN_drewN ..⟩

theorem part_is (a p m x y : Int) (w : World) (ha : I64 a) (hp : I64 p) (hm : I64 m) (h : partN a p m = x ∧ partE a p m = y) :
    Calls Try.prog 32 #[.int .i64 a, .int .i64 p, .int .i64 m] w fun e w' => e = .returned (.tuple #[.int .i64 x, .int .i64 y]) ∧ Quiet w w' :=
  (part_any a p m w ha hp hm).mono fun _ _ ⟨h1, h2⟩ => ⟨by rw [h1, part_leaf h], h2⟩
theorem sum_is (A : Option Addr) (xs : List Int) (c : Nat) (w : World) (x y : Int) (hx : ∀ x ∈ xs, I64 x) (hr : Row w 0 A (ints xs)) (hl : xs.length * 8 ≤ 140737488351232) (h : sumN xs.sum = x ∧ sumE xs.sum = y) :
    Calls Try.prog 15 #[.slice A xs.length c] w fun e w' => e = .returned (.tuple #[.int .i64 x, .int .i64 y]) ∧ Below w.heap.size w w' :=
  (sum_any A xs c w hx hr hl).mono fun _ _ ⟨h1, h2⟩ => ⟨by rw [h1]; unfold sumT; rw [h.1, h.2], h2⟩

theorem part_in {a p m : Int} (ha : I64 a) (h1 : 1 ≤ m) (h2 : 0 ≤ p) (h3 : p ≤ m) : I64 (a * p / m) := by
  unfold I64 at ha ⊢
  rcases Int.lt_or_le a 0 with c | c
  · have e1 : a * m ≤ a * p := Int.mul_le_mul_of_nonpos_left (by omega) h3
    have e2 : a * p ≤ 0 := by have := Int.mul_le_mul_of_nonpos_left (a := a) (by omega) h2; simpa using this
    have e3 : a ≤ a * p / m := by rw [Int.le_ediv_iff_mul_le (by omega)]; exact e1
    have e4 : a * p / m ≤ 0 := by
      have := Int.ediv_le_ediv (a := a * p) (b := 0) (c := m) (by omega) e2
      simpa using this
    omega
  · have e1 : a * p ≤ a * m := Int.mul_le_mul_of_nonneg_left h3 c
    have e2 : 0 ≤ a * p := Int.mul_nonneg c h2
    have e3 : a * p / m ≤ a := Int.ediv_le_of_le_mul (by omega) e1
    have e4 : 0 ≤ a * p / m := Int.ediv_nonneg e2 (by omega)
    omega
theorem part_ok {a p m : Int} (ha : I64 a) (h1 : 1 ≤ m) (h2 : 0 ≤ p) (h3 : p ≤ m) : partN a p m = a * p / m ∧ partE a p m = 0 := by
  unfold partN partE
  have hb : ¬ (m < 1 ∨ p < 0) := by omega
  rw [if_neg hb, if_neg hb, if_pos (part_in ha h1 h2 h3), if_pos (part_in ha h1 h2 h3)]
  exact ⟨rfl, rfl⟩
theorem rest_ok {a p m : Int} (h1 : 1 ≤ m) (h2 : 0 ≤ p) : restN a p m = a * p % m ∧ restE a p m = 0 := by
  unfold restN restE
  have hb : ¬ (m < 1 ∨ p < 0) := by omega
  rw [if_neg hb, if_neg hb]
  exact ⟨rfl, rfl⟩
/-- The parts of two that are the whole. -/
theorem below_quiet {w w1 w2 : World} (h : Below w.heap.size w w1) (k : Quiet w1 w2) : Below w.heap.size w w2 := h.trans (k.below.mono h.size)
end Go.Proofs.Ytbdhbongaikphaa.Cents
