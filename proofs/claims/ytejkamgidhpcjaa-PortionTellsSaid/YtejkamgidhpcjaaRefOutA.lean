/- The reference's Out: what a list of its own is behind a store; the ranks, counted. -/
import Derived.Test.YtejkamgidhpcjaaRefSteps
import Derived.Test.YtejkamgidhpcjaaPortionGood
namespace Go.Proofs.Ytejkamgidhpcjaa.PO
open Go.RowKit Go.Proofs.Ytejkamgidhpcjaa.Cents Go.Proofs.Ytejkamgidhpcjaa.CO Go.Proofs.Ytejkamgidhpcjaa.Exact
set_option linter.unusedVariables false
set_option linter.unusedSimpArgs false

/-- How many up to here are ahead of i. -/
def cntTo (r : List Int) (k i : Nat) : Nat := (List.range k).countP (fun j => decide (Dom r j i))
theorem cntTo_zero (r : List Int) (i : Nat) : cntTo r 0 i = 0 := rfl
theorem cntTo_yes {r : List Int} {k i : Nat} (h : Dom r k i) : cntTo r (k + 1) i = cntTo r k i + 1 := by unfold cntTo; rw [count_succ]; simp [h]
theorem cntTo_no {r : List Int} {k i : Nat} (h : ¬ Dom r k i) : cntTo r (k + 1) i = cntTo r k i := by unfold cntTo; rw [count_succ]; simp [h]
theorem cntTo_all (r : List Int) (n i : Nat) : cntTo r n i = rank r n i := rfl
theorem cntTo_le (r : List Int) (k i : Nat) : cntTo r k i ≤ k := by
  unfold cntTo
  have := List.countP_le_length (p := fun j => decide (Dom r j i)) (l := List.range k)
  simpa using this

theorem take_snocD {xs : List Int} {k : Nat} (hk : k < xs.length) : xs.take (k + 1) = xs.take k ++ [xs.getD k 0] := by
  rw [List.take_succ_eq_append_getElem hk, List.getD_eq_getElem?_getD, List.getElem?_eq_getElem hk]; rfl
/-- In the last loop: so many have got theirs. -/
def mid (T S : Int) (ws : List Int) (i : Nat) : List Int := (outL T S ws).take i ++ (pr T S ws).drop i
theorem outL_len (T S : Int) (ws : List Int) : (outL T S ws).length = ws.length := by simp [outL]
theorem pr_len (T S : Int) (ws : List Int) : (pr T S ws).length = ws.length := by simp [pr]
theorem mid_len (T S : Int) (ws : List Int) (i : Nat) : (mid T S ws i).length = ws.length := by
  unfold mid; rw [List.length_append, List.length_take, List.length_drop, outL_len, pr_len]; omega
theorem mid_zero (T S : Int) (ws : List Int) : mid T S ws 0 = pr T S ws := by simp [mid]
theorem mid_all (T S : Int) (ws : List Int) : mid T S ws ws.length = outL T S ws := by
  unfold mid
  rw [List.take_of_length_le (by rw [outL_len]; exact Nat.le_refl _), List.drop_of_length_le (by rw [pr_len]; exact Nat.le_refl _), List.append_nil]
theorem mid_get {T S : Int} {ws : List Int} {i : Nat} (h : i < ws.length) : (mid T S ws i).getD i 0 = T * ws.getD i 0 / S := by
  unfold mid
  have h1 : ((outL T S ws).take i).length = i := by rw [List.length_take, outL_len]; omega
  rw [List.getD_eq_getElem?_getD, List.getElem?_append_right (by omega), h1, Nat.sub_self, List.getElem?_drop, Nat.add_zero, ← List.getD_eq_getElem?_getD]
  exact map_getD (f := fun x => T * x / S) h
theorem outL_get {T S : Int} {ws : List Int} {i : Nat} (h : i < ws.length) : (outL T S ws).getD i 0 = T * ws.getD i 0 / S + if rank (rr T S ws) ws.length i < (T - (pr T S ws).sum).toNat then 1 else 0 := by
  simp [outL, List.getD_eq_getElem?_getD, h]
theorem mid_set {T S : Int} {ws : List Int} {i : Nat} (h : i < ws.length) : (mid T S ws i).set i ((outL T S ws).getD i 0) = mid T S ws (i + 1) := by
  unfold mid
  have h1 : ((outL T S ws).take i).length = i := by rw [List.length_take, outL_len]; omega
  rw [List.set_append_right _ _ (by omega), h1, Nat.sub_self, take_snocD (by rw [outL_len]; exact h), List.append_assoc]
  congr 1
  rw [List.drop_eq_getElem_cons (by rw [pr_len]; exact h), List.set_cons_zero]
  rfl
theorem mid_same {T S : Int} {ws : List Int} {i : Nat} (h : i < ws.length) (he : (outL T S ws).getD i 0 = T * ws.getD i 0 / S) : mid T S ws (i + 1) = mid T S ws i := by
  rw [← mid_set h, he, ← mid_get h]
  have h1 : i < (mid T S ws i).length := by rw [mid_len]; exact h
  rw [List.getD_eq_getElem?_getD, List.getElem?_eq_getElem h1]
  simp

theorem wE_any {ws : List Int} (h : wE ws = 0) : ws.any (fun x => decide (0 < x)) = true := by
  unfold wE at h
  split at h
  · omega
  · split at h
    · omega
    · split at h
      · assumption
      · omega
theorem nonneg_get {ws : List Int} (h : ∀ x ∈ ws, 0 ≤ x) {k : Nat} (hk : k < ws.length) : 0 ≤ ws.getD k 0 := by
  rw [List.getD_eq_getElem?_getD, List.getElem?_eq_getElem hk]; exact h _ (List.getElem_mem _)
theorem i64_get {ws : List Int} (h : ∀ x ∈ ws, I64 x) {k : Nat} (hk : k < ws.length) : I64 (ws.getD k 0) := by
  rw [List.getD_eq_getElem?_getD, List.getElem?_eq_getElem hk]; exact h _ (List.getElem_mem _)
/-- What is still left, behind so many parts. -/
theorem left_step {T S : Int} {ws : List Int} {k : Nat} (h : k < ws.length) : T - ((pr T S ws).take k).sum - T * ws.getD k 0 / S = T - ((pr T S ws).take (k + 1)).sum := by
  rw [take_snocD (by rw [pr_len]; exact h), List.sum_append, show (pr T S ws).getD k 0 = T * ws.getD k 0 / S from map_getD (f := fun x => T * x / S) h]
  simp
  omega
theorem many_ok {T S : Int} {ws : List Int} (h : Wts T S ws) (hT : I64 T) : 0 ≤ T - (pr T S ws).sum ∧ T - (pr T S ws).sum ≤ T ∧ I64 (T - (pr T S ws).sum) := by
  have h1 := h.missing
  have h2 : 0 ≤ (pr T S ws).sum := sum_nonneg fun i hi => (h.p (by rw [pr_len] at hi; exact hi)).2.1
  have := h.t0
  unfold I64 at *
  omega
theorem part_is2 {T S : Int} {ws : List Int} (h : Wts T S ws) (hT : I64 T) {k : Nat} (hk : k < ws.length) : I64 (T * ws.getD k 0 / S) ∧ partN T (ws.getD k 0) S = T * ws.getD k 0 / S ∧ partE T (ws.getD k 0) S = 0 := by
  obtain ⟨h1, h2, h3⟩ := h.p hk
  rw [h1] at h2 h3
  have h4 := nonneg_get h.pos hk
  have h5 : I64 (T * ws.getD k 0 / S) := by unfold I64 at *; omega
  have h6 := h.one
  unfold partN partE
  simp only [if_neg (show ¬ (S < 1 ∨ ws.getD k 0 < 0) by omega), if_pos h5]
  exact ⟨h5, trivial, trivial⟩
theorem rest_is2 {T S : Int} {ws : List Int} (h : Wts T S ws) {k : Nat} (hk : k < ws.length) : restN T (ws.getD k 0) S = (rr T S ws).getD k 0 ∧ restE T (ws.getD k 0) S = 0 := by
  have h4 := nonneg_get h.pos hk
  have h6 := h.one
  unfold restN restE
  simp only [if_neg (show ¬ (S < 1 ∨ ws.getD k 0 < 0) by omega), (h.r hk).1]
  exact ⟨trivial, trivial⟩
theorem outL_I {T S : Int} {ws : List Int} (h : Wts T S ws) (hT : I64 T) (hn : 1 ≤ ws.length) {i : Nat} (hi : i < ws.length) : 0 ≤ (outL T S ws).getD i 0 ∧ (outL T S ws).getD i 0 ≤ T := (outL_ok h hn).pos h hi
end Go.Proofs.Ytejkamgidhpcjaa.PO
