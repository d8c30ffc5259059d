/- Plain numbers for the reference's Over: doubles, halves. -/
import Derived.Test.YtbdhbongaikphaaExactMath
namespace Go.Proofs.Ytbdhbongaikphaa.EM
set_option linter.unusedVariables false
set_option linter.unusedSimpArgs false

theorem two_pos (n : Nat) : (0 : Int) < 2 ^ n := Int.pow_pos (by omega)
theorem dbl_succ (b : Int) (i : Nat) : b * 2 ^ (i + 1) = b * 2 ^ i + b * 2 ^ i := by rw [Int.pow_succ, ← Int.mul_assoc]; omega
theorem dbl_pos {b : Int} (h : 1 ≤ b) (i : Nat) : 0 < b * 2 ^ i := Int.mul_pos (by omega) (two_pos i)
theorem two_mono {a b : Nat} (h : a ≤ b) : (2 : Int) ^ a ≤ 2 ^ b := by
  induction h with
  | refl => exact Int.le_refl _
  | step _ ih => have := two_pos a; rw [Int.pow_succ]; omega
theorem dbl_lt {a b : Int} {i : Nat} (hb : 1 ≤ b) (ha : a < 2 ^ 200) (h : b * 2 ^ i ≤ a) : i < 200 := by
  rcases Nat.lt_or_ge i 200 with c | c
  · exact c
  · exfalso
    have h1 := two_mono c
    have h2 : (1 : Int) * 2 ^ i ≤ b * 2 ^ i := Int.mul_le_mul_of_nonneg_right hb (Int.le_of_lt (two_pos i))
    omega

/-- On the way down: n doubles are left; what is counted, what is left of a. -/
structure Down (a b : Int) (n : Nat) (q x : Int) : Prop where
  lo : 0 ≤ x
  hi : x < b * 2 ^ n
  eq : q * (b * 2 ^ n) + x = a
theorem Down.start {a b : Int} {n : Nat} (h0 : 0 ≤ a) (h : a < b * 2 ^ n) : Down a b n 0 a := ⟨h0, h, by simp⟩
theorem Down.take {a b : Int} {n : Nat} {q x : Int} (h : Down a b (n + 1) q x) (hx : b * 2 ^ n ≤ x) : Down a b n (q + q + 1) (x - b * 2 ^ n) := by
  have h1 := h.lo
  have h2 := h.hi
  have h3 := h.eq
  rw [dbl_succ] at h2 h3
  rw [Int.mul_add] at h3
  refine ⟨by omega, by omega, ?_⟩
  rw [Int.add_mul, Int.add_mul, Int.one_mul]
  omega
theorem Down.skip {a b : Int} {n : Nat} {q x : Int} (h : Down a b (n + 1) q x) (hx : x < b * 2 ^ n) : Down a b n (q + q) x := by
  have h1 := h.lo
  have h3 := h.eq
  rw [dbl_succ] at h3
  rw [Int.mul_add] at h3
  refine ⟨h1, hx, ?_⟩
  rw [Int.add_mul]
  omega
theorem Down.done {a b : Int} {q x : Int} (hb : 1 ≤ b) (h : Down a b 0 q x) : q = a / b := by
  have h1 := h.lo
  have h2 := h.hi
  have h3 := h.eq
  simp only [Int.pow_zero, Int.mul_one] at h2 h3
  rw [← h3, Int.add_comm, Int.add_mul_ediv_right _ _ (by omega), Int.ediv_eq_zero_of_lt h1 h2]
  omega
theorem two_200 : (2 : Int) ^ 200 < 1000 ^ 70 := by decide +kernel
theorem Down.le {a b : Int} {n : Nat} {q x : Int} (hb : 1 ≤ b) (h : Down a b n q x) (hq : 0 ≤ q) : x ≤ a ∧ q ≤ a := by
  have h1 := h.lo
  have h3 := h.eq
  have h4 := dbl_pos hb n
  have h5 : q * 1 ≤ q * (b * 2 ^ n) := Int.mul_le_mul_of_nonneg_left (by omega) hq
  omega
theorem Down.le2 {a b : Int} {n : Nat} {q x : Int} (hb : 1 ≤ b) (h : Down a b (n + 1) q x) (hq : 0 ≤ q) : q + q ≤ a := by
  have h1 := h.lo
  have h3 := h.eq
  have h4 := dbl_pos hb n
  rw [dbl_succ, Int.mul_add] at h3
  have h5 : q * 1 ≤ q * (b * 2 ^ n) := Int.mul_le_mul_of_nonneg_left (by omega) hq
  omega
theorem small_70 {a x : Int} (h0 : 0 ≤ x) (h : x ≤ a) (ha : a < 2 ^ 200) : (x.natAbs : Int) < 1000 ^ 70 := by
  have := two_200
  omega
/-- Below 0: by what the code does. -/
theorem over_neg {a b : Int} (hb : 1 ≤ b) (ha : a < 0) : -((-a + b - 1) / b) = a / b := by
  have h1 := Int.mul_ediv_add_emod a b
  have h2 := Int.emod_nonneg a (show b ≠ 0 by omega)
  have h3 := Int.emod_lt_of_pos a (show 0 < b by omega)
  generalize a % b = r at *
  generalize hq : a / b = q at *
  have e : -a + b - 1 = (b - 1 - r) + b * (-q) := by rw [Int.mul_neg]; omega
  rw [e, Int.add_mul_ediv_left _ _ (by omega), Int.ediv_eq_zero_of_lt (by omega) (by omega)]
  omega
end Go.Proofs.Ytbdhbongaikphaa.EM
