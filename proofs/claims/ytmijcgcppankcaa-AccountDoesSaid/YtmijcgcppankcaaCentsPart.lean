/- The walks of cents.Part and cents.Rest. -/
import Derived.Test.YtmijcgcppankcaaCents
namespace Go.Proofs.Ytmijcgcppankcaa.Cents
open Go.RowKit
set_option linter.unusedVariables false
set_option linter.unusedSimpArgs false

/-- What Part and Rest tell. -/
def partN (a p m : Int) : Int := if m < 1 ∨ p < 0 then 0 else if I64 (a * p / m) then a * p / m else 0
def partE (a p m : Int) : Int := if m < 1 ∨ p < 0 then 1 else if I64 (a * p / m) then 0 else 3
def partT (a p m : Int) : Value := .tuple #[.int .i64 (partN a p m), .int .i64 (partE a p m)]
def restN (a p m : Int) : Int := if m < 1 ∨ p < 0 then 0 else a * p % m
def restE (a p m : Int) : Int := if m < 1 ∨ p < 0 then 1 else 0
def restT (a p m : Int) : Value := .tuple #[.int .i64 (restN a p m), .int .i64 (restE a p m)]

theorem natAbs_lt {a : Int} (h : I64 a) : (a.natAbs : Int) < 18446744073709551616 := by have := h.1; have := h.2; omega

theorem part_leaf {a p m x y : Int} (h : partN a p m = x ∧ partE a p m = y) : Value.tuple #[.int .i64 x, .int .i64 y] = partT a p m := by unfold partT; rw [h.1, h.2]

theorem div_sign {a p m q r : Int} (h1 : 1 ≤ m) (hq : q = (a.natAbs : Int) * p / m) (hr : r = (a.natAbs : Int) * p % m) :
    (0 ≤ a → a * p / m = q) ∧ (a < 0 → r = 0 → a * p / m = -q) ∧ (a < 0 → r ≠ 0 → a * p / m = -q - 1) := by
  have hd := Int.mul_ediv_add_emod ((a.natAbs : Int) * p) m
  rw [← hq, ← hr] at hd
  have r0 : 0 ≤ r := hr ▸ Int.emod_nonneg _ (by omega)
  have r1 : r < m := hr ▸ Int.emod_lt_of_pos _ (by omega)
  refine ⟨fun h => ?_, fun h h' => ?_, fun h h' => ?_⟩
  · rw [hq, Int.natAbs_of_nonneg h]
  · have e : a * p = m * (-q) + 0 := by
      have : (a.natAbs : Int) = -a := by omega
      rw [this, Int.neg_mul] at hd
      rw [Int.mul_neg]; omega
    rw [e, Int.add_zero, Int.mul_ediv_cancel_left _ (by omega)]
  · have e : a * p = (m - r) + m * (-q - 1) := by
      have : (a.natAbs : Int) = -a := by omega
      rw [this, Int.neg_mul] at hd
      rw [Int.mul_sub, Int.mul_neg, Int.mul_one]; omega
    rw [e, Int.add_mul_ediv_left _ _ (by omega), Int.ediv_eq_zero_of_lt (by omega) (by omega)]; omega

theorem part_sum {a p m x y D : Int} (h1 : 1 ≤ m) (h2 : 0 ≤ p) (hD : a * p / m = D) (hin : -9223372036854775808 ≤ D → D < 9223372036854775808 → D = x ∧ 0 = y)
    (hout : D < -9223372036854775808 ∨ 9223372036854775808 ≤ D → 0 = x ∧ 3 = y) : partN a p m = x ∧ partE a p m = y := by
  unfold partN partE
  have hb : ¬ (m < 1 ∨ p < 0) := by omega
  rw [if_neg hb, if_neg hb, hD]
  by_cases c : I64 D
  · rw [if_pos c, if_pos c]; exact hin c.1 c.2
  · rw [if_neg c, if_neg c]; exact hout (by unfold I64 at c; omega)

theorem rest_leaf {a p m x y : Int} (h : restN a p m = x ∧ restE a p m = y) : Value.tuple #[.int .i64 x, .int .i64 y] = restT a p m := by unfold restT; rw [h.1, h.2]
theorem mod_sign {a p m r : Int} (h1 : 1 ≤ m) (hr : r = (a.natAbs : Int) % m * (p % m) % m) :
    0 ≤ r ∧ r < m ∧ (0 ≤ a → a * p % m = r) ∧ (a < 0 → r = 0 → a * p % m = 0) ∧ (a < 0 → r ≠ 0 → a * p % m = m - r) := by
  rw [← Int.mul_emod] at hr
  have hd := Int.mul_ediv_add_emod ((a.natAbs : Int) * p) m
  rw [← hr] at hd
  have r0 : 0 ≤ r := hr ▸ Int.emod_nonneg _ (by omega)
  have r1 : r < m := hr ▸ Int.emod_lt_of_pos _ (by omega)
  generalize (a.natAbs : Int) * p / m = q at hd
  refine ⟨r0, r1, fun h => ?_, fun h h' => ?_, fun h h' => ?_⟩
  · rw [hr, Int.natAbs_of_nonneg h]
  · have e : a * p = 0 + m * (-q) := by
      have : (a.natAbs : Int) = -a := by omega
      rw [this, Int.neg_mul] at hd
      rw [Int.mul_neg]; omega
    rw [e, Int.add_mul_emod_self_left]; rfl
  · have e : a * p = (m - r) + m * (-q - 1) := by
      have : (a.natAbs : Int) = -a := by omega
      rw [this, Int.neg_mul] at hd
      rw [Int.mul_sub, Int.mul_neg, Int.mul_one]; omega
    rw [e, Int.add_mul_emod_self_left, Int.emod_eq_of_lt (by omega) (by omega)]
theorem rest_sum {a p m x y D : Int} (h1 : 1 ≤ m) (h2 : 0 ≤ p) (hD : a * p % m = D) (h : D = x ∧ 0 = y) : restN a p m = x ∧ restE a p m = y := by
  unfold restN restE
  have hb : ¬ (m < 1 ∨ p < 0) := by omega
  rw [if_neg hb, if_neg hb, hD]; exact h

end Go.Proofs.Ytmijcgcppankcaa.Cents
