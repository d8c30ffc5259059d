/- Plain numbers for steps: a mark more. -/
import Derived.Test.YtmijcgcppankcaaStepsMath
namespace Go.Proofs.Ytmijcgcppankcaa.PO
open Go.Proofs.Ytmijcgcppankcaa.Cents
set_option linter.unusedVariables false
set_option linter.unusedSimpArgs false

theorem take_getD (l : List Int) {k i : Nat} (h : i < k) : (l.take k).getD i 0 = l.getD i 0 := by
  simp [List.getD_eq_getElem?_getD, List.getElem?_take, h]
theorem drop_getD (l : List Int) (k i : Nat) : (l.drop k).getD i 0 = l.getD (k + i) 0 := by
  simp [List.getD_eq_getElem?_getD, List.getElem?_drop]
theorem ext_getD {xs ys : List Int} (h : xs.length = ys.length) (he : ∀ i, i < ys.length → xs.getD i 0 = ys.getD i 0) : xs = ys := by
  apply List.ext_getElem h
  intro i h1 h2
  have := he i h2
  simpa [List.getD_eq_getElem?_getD, h1, h2] using this
/-- The marks, and x ahead of the k-th. -/
def wi (ms : List Int) (x : Int) (k : Nat) : List Int := ms.take k ++ [x] ++ ms.drop k
theorem wi_len {ms : List Int} {x : Int} {k : Nat} (h : k ≤ ms.length) : (wi ms x k).length = ms.length + 1 := by
  simp [wi]; omega
theorem wi_lt {ms : List Int} {x : Int} {k i : Nat} (h : k ≤ ms.length) (hi : i < k) : (wi ms x k).getD i 0 = ms.getD i 0 := by
  simp only [wi, List.getD_eq_getElem?_getD]
  rw [List.append_assoc, List.getElem?_append_left (by simp; omega), List.getElem?_take, if_pos hi]
theorem wi_at {ms : List Int} {x : Int} {k : Nat} (h : k ≤ ms.length) : (wi ms x k).getD k 0 = x := by
  have hl : (ms.take k).length = k := by rw [List.length_take]; omega
  simp only [wi, List.getD_eq_getElem?_getD]
  rw [List.append_assoc, List.getElem?_append_right (by omega), hl]
  simp
theorem wi_gt {ms : List Int} {x : Int} {k i : Nat} (h : k ≤ ms.length) (hi : k ≤ i) : (wi ms x k).getD (i + 1) 0 = ms.getD i 0 := by
  have hl : (ms.take k ++ [x]).length = k + 1 := by simp; omega
  simp only [wi, List.getD_eq_getElem?_getD]
  rw [List.getElem?_append_right (by omega), hl, List.getElem?_drop, show k + (i + 1 - (k + 1)) = i by omega]
structure Put (ms : List Int) (W x : Int) (k : Nat) : Prop where
  hk : k ≤ ms.length
  up : ∀ i, i < ms.length → Up ms W i
  x0 : 0 ≤ x
  x1 : x ≤ W
  le : ∀ i, i < k → ms.getD i 0 ≤ x
  gt : k < ms.length → x ≤ ms.getD k 0
section
variable {ms : List Int} {T W x : Int} {k : Nat}
theorem Put.prv_le (h : Put ms W x k) {i : Nat} (hi : i ≤ k) : prv (wi ms x k) i = prv ms i := by
  unfold prv
  split
  · rfl
  · exact wi_lt h.hk (by omega)
theorem Put.prv_at (h : Put ms W x k) : prv (wi ms x k) (k + 1) = x := by
  rw [prv_succ, wi_at h.hk]
theorem Put.prv_gt (h : Put ms W x k) {i : Nat} (hi : k < i) : prv (wi ms x k) (i + 1) = prv ms i := by
  obtain ⟨j, rfl⟩ : ∃ j, i = j + 1 := ⟨i - 1, by omega⟩
  rw [prv_succ, prv_succ, wi_gt h.hk (by omega)]
theorem Put.ups (h : Put ms W x k) : ∀ i, i < (wi ms x k).length → Up (wi ms x k) W i := by
  intro i hi
  rw [wi_len h.hk] at hi
  unfold Up
  have hx0 := h.x0
  have hx1 := h.x1
  rcases Nat.lt_or_ge i k with c | c
  · rw [h.prv_le (by omega), wi_lt h.hk c]; exact h.up i (by have := h.hk; omega)
  · by_cases e : i = k
    · subst e
      rw [h.prv_le (Nat.le_refl _), wi_at h.hk]
      refine ⟨?_, hx1⟩
      unfold prv
      split
      · exact hx0
      · exact h.le _ (by omega)
    · obtain ⟨j, rfl⟩ : ∃ j, i = j + 1 := ⟨i - 1, by omega⟩
      rw [wi_gt h.hk (by omega)]
      have hu := h.up j (by omega)
      unfold Up at hu
      by_cases e2 : j = k
      · subst e2
        rw [h.prv_at]
        exact ⟨h.gt (by omega), hu.2⟩
      · rw [h.prv_gt (by omega)]; exact hu
theorem Put.take (h : Put ms W x k) : (stL T W (wi ms x k)).take k = (stL T W ms).take k := by
  have hk := h.hk
  apply ext_getD
  · rw [List.length_take, List.length_take, stL_len, stL_len, wi_len hk]; omega
  · intro i hi
    rw [List.length_take] at hi
    rw [take_getD _ (by omega), take_getD _ (by omega), stL_get (by rw [wi_len hk]; omega), stL_get (by omega), h.prv_le (by omega), wi_lt hk (by omega)]
theorem Put.drop (h : Put ms W x k) (hlt : k < ms.length) : (stL T W (wi ms x k)).drop (k + 2) = (stL T W ms).drop (k + 1) := by
  have hk := h.hk
  apply ext_getD
  · rw [List.length_drop, List.length_drop, stL_len, stL_len, wi_len hk]; omega
  · intro i hi
    rw [List.length_drop, stL_len] at hi
    rw [drop_getD, drop_getD, stL_get (by rw [wi_len hk]; omega), stL_get (by omega), show k + 2 + i = (k + 1 + i) + 1 by omega, h.prv_gt (by omega), wi_gt hk (by omega)]
theorem Put.both (h : Put ms W x k) (hlt : k < ms.length) : (stL T W (wi ms x k)).getD k 0 + (stL T W (wi ms x k)).getD (k + 1) 0 = (stL T W ms).getD k 0 := by
  have hk := h.hk
  rw [stL_get (by rw [wi_len hk]; omega), stL_get (by rw [wi_len hk]; omega), stL_get hlt, h.prv_le (Nat.le_refl _), h.prv_at, wi_at hk, wi_gt hk (Nat.le_refl _)]
  omega
end
theorem stL_I {T W : Int} {ms : List Int} (hT : I64 T) (hW : 1 ≤ W) (hu : ∀ i, i < ms.length → Up ms W i) : ∀ x ∈ stL T W ms, I64 x := by
  intro x hx
  obtain ⟨i, hi, rfl⟩ := List.getElem_of_mem hx
  have e : (stL T W ms)[i] = (stL T W ms).getD i 0 := by simp [List.getD_eq_getElem?_getD, hi]
  rw [stL_len] at hi
  rw [e, stL_get hi]
  exact (cuts hT hW (up_pos hu i (by omega)) (hu i hi).1 (hu i hi).2).id
theorem stL_pos {T W : Int} {ms : List Int} (hT : I64 T) (hW : 1 ≤ W) (hu : ∀ i, i < ms.length → Up ms W i) (h0 : 0 ≤ T) {i : Nat} (hi : i < ms.length) : 0 ≤ (stL T W ms).getD i 0 := by
  rw [stL_get hi]
  have := (cuts hT hW (up_pos hu i (by omega)) (hu i hi).1 (hu i hi).2).up h0
  omega
theorem stL_total {T W : Int} {ms : List Int} (hT : I64 T) (hW : 1 ≤ W) (hu : ∀ i, i < ms.length → Up ms W i) : (stL T W ms).sum = T * prv ms ms.length / W ∧ I64 (T * prv ms ms.length / W) := by
  refine ⟨?_, ?_⟩
  · have := stL_sum (T := T) (W := W) (ms := ms) (k := ms.length) (Nat.le_refl _)
    rw [List.take_of_length_le (by rw [stL_len]; exact Nat.le_refl _)] at this
    exact this
  · by_cases h : ms.length = 0
    · rw [h, prv_zero]; simp; decide
    · obtain ⟨j, hj⟩ : ∃ j, ms.length = j + 1 := ⟨ms.length - 1, by omega⟩
      rw [hj, prv_succ]
      exact (cuts hT hW (up_pos hu j (by omega)) (hu j (by omega)).1 (hu j (by omega)).2).im
end Go.Proofs.Ytmijcgcppankcaa.PO
