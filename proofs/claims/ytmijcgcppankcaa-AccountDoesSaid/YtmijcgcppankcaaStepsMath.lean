/- Plain numbers for steps between marks. -/
import Derived.Test.YtmijcgcppankcaaPortionMath3
import Derived.Test.YtmijcgcppankcaaPartIs
namespace Go.Proofs.Ytmijcgcppankcaa.PO
open Go.Proofs.Ytmijcgcppankcaa.Cents
set_option linter.unusedVariables false
set_option linter.unusedSimpArgs false

/-- The mark ahead. -/
def prv (ms : List Int) (i : Nat) : Int := if i = 0 then 0 else ms.getD (i - 1) 0
def Up (ms : List Int) (W : Int) (i : Nat) : Prop := prv ms i ≤ ms.getD i 0 ∧ ms.getD i 0 ≤ W
instance (ms : List Int) (W : Int) (i : Nat) : Decidable (Up ms W i) := by unfold Up; infer_instance
def stE (W : Int) (ms : List Int) : Int := if 64 < ms.length then 4 else if W < 1 then 1 else if (List.range ms.length).all (fun i => decide (Up ms W i)) = true then 0 else 1
def stL (T W : Int) (ms : List Int) : List Int := (List.range ms.length).map fun i => T * ms.getD i 0 / W - T * prv ms i / W
def stV (T W : Int) (ms : List Int) : List Int := if stE W ms = 0 then stL T W ms else []
theorem prv_succ (ms : List Int) (k : Nat) : prv ms (k + 1) = ms.getD k 0 := by simp [prv]
theorem prv_zero (ms : List Int) : prv ms 0 = 0 := by simp [prv]
theorem up_pos {ms : List Int} {W : Int} {k : Nat} (h : ∀ i, i < k → Up ms W i) : ∀ i, i ≤ k → 0 ≤ prv ms i := by
  intro i
  induction i with
  | zero => intro _; rw [prv_zero]; exact Int.le_refl _
  | succ i ih =>
    intro hi
    have h1 := ih (by omega)
    have h2 := (h i (by omega)).1
    rw [prv_succ]; omega
theorem all_range {P : Nat → Bool} {n : Nat} : (List.range n).all P = true ↔ ∀ i, i < n → P i = true := by
  rw [List.all_eq_true]
  exact ⟨fun h i hi => h i (List.mem_range.2 hi), fun h i hi => h i (List.mem_range.1 hi)⟩
theorem stE_ok {W : Int} {ms : List Int} (h : stE W ms = 0) : ms.length ≤ 64 ∧ 1 ≤ W ∧ ∀ i, i < ms.length → Up ms W i := by
  unfold stE at h
  split at h
  · omega
  · split at h
    · omega
    · split at h
      · rename_i h1 h2 h3
        rw [all_range] at h3
        exact ⟨by omega, by omega, fun i hi => by have := h3 i hi; simpa using this⟩
      · omega
theorem stE_up {W : Int} {ms : List Int} (h1 : ms.length ≤ 64) (h2 : 1 ≤ W) (h3 : ∀ i, i < ms.length → Up ms W i) : stE W ms = 0 := by
  unfold stE
  rw [if_neg (by omega), if_neg (by omega), if_pos]
  rw [all_range]
  intro i hi
  simpa using h3 i hi
theorem stE_down {W : Int} {ms : List Int} {k : Nat} (h1 : ms.length ≤ 64) (h2 : 1 ≤ W) (hk : k < ms.length) (h3 : ¬ Up ms W k) : stE W ms = 1 := by
  unfold stE
  rw [if_neg (by omega), if_neg (by omega), if_neg]
  rw [all_range]
  intro h
  have := h k hk
  simp at this
  exact h3 this
/-- Of two marks. -/
structure Cuts (T W p m : Int) : Prop where
  im : I64 (T * m / W)
  ip : I64 (T * p / W)
  id : I64 (T * m / W - T * p / W)
  up : 0 ≤ T → 0 ≤ T * p / W ∧ T * p / W ≤ T * m / W ∧ T * m / W ≤ T
  dn : T ≤ 0 → T ≤ T * m / W ∧ T * m / W ≤ T * p / W ∧ T * p / W ≤ 0
theorem cuts {T W p m : Int} (hT : I64 T) (hW : 1 ≤ W) (h0 : 0 ≤ p) (h1 : p ≤ m) (h2 : m ≤ W) : Cuts T W p m := by
  have a1 := part_in hT hW h0 (by omega : p ≤ W)
  have a2 := part_in hT hW (by omega : 0 ≤ m) h2
  have up : 0 ≤ T → 0 ≤ T * p / W ∧ T * p / W ≤ T * m / W ∧ T * m / W ≤ T := fun h => by
    refine ⟨Int.ediv_nonneg (Int.mul_nonneg h h0) (by omega), Int.ediv_le_ediv (by omega) (Int.mul_le_mul_of_nonneg_left h1 h), ?_⟩
    exact Int.ediv_le_of_le_mul (by omega) (Int.mul_le_mul_of_nonneg_left h2 h)
  have dn : T ≤ 0 → T ≤ T * m / W ∧ T * m / W ≤ T * p / W ∧ T * p / W ≤ 0 := fun h => by
    refine ⟨Int.le_ediv_of_mul_le (by omega) (Int.mul_le_mul_of_nonpos_left h h2), Int.ediv_le_ediv (by omega) (Int.mul_le_mul_of_nonpos_left h h1), ?_⟩
    have : T * p ≤ 0 := Int.mul_nonpos_of_nonpos_of_nonneg h h0
    have := Int.ediv_le_ediv (c := W) (by omega) this
    simpa using this
  refine ⟨a2, a1, ?_, up, dn⟩
  unfold I64 at *
  rcases Int.le_total 0 T with c | c
  · have := up c; omega
  · have := dn c; omega
theorem stL_len (T W : Int) (ms : List Int) : (stL T W ms).length = ms.length := by simp [stL]
theorem stL_get {T W : Int} {ms : List Int} {i : Nat} (h : i < ms.length) : (stL T W ms).getD i 0 = T * ms.getD i 0 / W - T * prv ms i / W := by
  simp [stL, List.getD_eq_getElem?_getD, h]
theorem stL_take {T W : Int} {ms : List Int} {k : Nat} (h : k < ms.length) : (stL T W ms).take (k + 1) = (stL T W ms).take k ++ [T * ms.getD k 0 / W - T * prv ms k / W] := by
  rw [List.take_succ_eq_append_getElem (by rw [stL_len]; exact h)]
  simp [stL]
theorem stL_sum {T W : Int} {ms : List Int} {k : Nat} (h : k ≤ ms.length) : ((stL T W ms).take k).sum = T * prv ms k / W := by
  induction k with
  | zero => simp [prv_zero]
  | succ k ih =>
    rw [stL_take (by omega), List.sum_append, ih (by omega), prv_succ]
    simp
    omega
end Go.Proofs.Ytmijcgcppankcaa.PO
