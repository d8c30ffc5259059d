/- Plain numbers for cents.Sum: those above 0 and those below, and sums on the way. -/
import Derived.Test.YtbdhbongaikphaaCents
namespace Go.Proofs.Ytbdhbongaikphaa.CM
open Go.Proofs.Ytbdhbongaikphaa.Cents
set_option linter.unusedVariables false
set_option linter.unusedSimpArgs false

def rich (xs : List Int) : List Int := xs.filter fun x => decide (0 ≤ x)
def poor (xs : List Int) : List Int := xs.filter fun x => decide (x < 0)
theorem rich_snoc (xs : List Int) (x : Int) : rich (xs ++ [x]) = if x < 0 then rich xs else rich xs ++ [x] := by
  unfold rich
  rw [List.filter_append]
  by_cases h : x < 0
  · rw [if_pos h]; simp [List.filter_cons, show ¬ (0 ≤ x) by omega]
  · rw [if_neg h]; simp [List.filter_cons, show 0 ≤ x by omega]
theorem poor_snoc (xs : List Int) (x : Int) : poor (xs ++ [x]) = if x < 0 then poor xs ++ [x] else poor xs := by
  unfold poor
  rw [List.filter_append]
  by_cases h : x < 0
  · rw [if_pos h]; simp [List.filter_cons, h]
  · rw [if_neg h]; simp [List.filter_cons, h]
theorem rich_len (xs : List Int) : (rich xs).length ≤ xs.length := List.length_filter_le _ _
theorem poor_len (xs : List Int) : (poor xs).length ≤ xs.length := List.length_filter_le _ _
theorem rich_poor (xs : List Int) : (rich xs).sum + (poor xs).sum = xs.sum := by
  induction xs with
  | nil => rfl
  | cons x xs ih =>
    unfold rich poor at ih ⊢
    by_cases h : x < 0
    · simp only [List.filter_cons, show decide (0 ≤ x) = false by simp; omega, h, decide_true, if_true, List.sum_cons, Bool.false_eq_true, if_false]; omega
    · simp only [List.filter_cons, show decide (0 ≤ x) = true by simp; omega, h, decide_false, if_true, List.sum_cons, Bool.false_eq_true, if_false]; omega
theorem sum_nonneg {l : List Int} (h : ∀ x ∈ l, 0 ≤ x) : 0 ≤ l.sum := by
  induction l with
  | nil => simp
  | cons x l ih =>
    have h1 := h x (by simp)
    have h2 := ih fun y hy => h y (by simp [hy])
    rw [List.sum_cons]; omega
theorem sum_nonpos {l : List Int} (h : ∀ x ∈ l, x < 0) : l.sum ≤ 0 := by
  induction l with
  | nil => simp
  | cons x l ih =>
    have h1 := h x (by simp)
    have h2 := ih fun y hy => h y (by simp [hy])
    rw [List.sum_cons]; omega

/-- What Sum has still to sum: r those above 0 and p those below, s what was summed; t the sum of all. -/
structure Way (t s : Int) (r p : List Int) : Prop where
  r0 : ∀ x ∈ r, 0 ≤ x ∧ I64 x
  p0 : ∀ x ∈ p, x < 0 ∧ I64 x
  sum : s + r.sum + p.sum = t
  s64 : I64 s
theorem Way.start {xs : List Int} (h : ∀ x ∈ xs, I64 x) : Way xs.sum 0 (rich xs) (poor xs) where
  r0 := fun x hx => by
    unfold rich at hx; rw [List.mem_filter] at hx; exact ⟨by simpa using hx.2, h x hx.1⟩
  p0 := fun x hx => by
    unfold poor at hx; rw [List.mem_filter] at hx; exact ⟨by simpa using hx.2, h x hx.1⟩
  sum := by have := rich_poor xs; omega
  s64 := by unfold I64; omega
theorem Way.done {t s : Int} (h : Way t s [] []) : t = s ∧ I64 s := by have := h.sum; simp at this; exact ⟨this.symm, h.s64⟩

theorem last_mem {l : List Int} (hl : l ≠ []) : l.getLast hl ∈ l := List.getLast_mem hl
theorem sum_last {l : List Int} (hl : l ≠ []) : l.sum = l.dropLast.sum + l.getLast hl := by
  conv => lhs; rw [← List.dropLast_concat_getLast hl]
  rw [List.sum_append]; simp

/-- One of those above 0, taken where none is below or the sum is. -/
theorem Way.rich {t s : Int} {r p : List Int} (h : Way t s r p) (hr : r ≠ []) : I64 (s + r.getLast hr) → Way t (s + r.getLast hr) r.dropLast p := fun h64 =>
  ⟨fun x hx => h.r0 x ((List.dropLast_sublist _).subset hx), h.p0, by have := h.sum; have := sum_last hr; omega, h64⟩
theorem Way.poor {t s : Int} {r p : List Int} (h : Way t s r p) (hp : p ≠ []) : I64 (s + p.getLast hp) → Way t (s + p.getLast hp) r p.dropLast := fun h64 =>
  ⟨h.r0, fun x hx => h.p0 x ((List.dropLast_sublist _).subset hx), by have := h.sum; have := sum_last hp; omega, h64⟩
theorem Way.rich_over {t s : Int} {r p : List Int} (h : Way t s r p) (hr : r ≠ []) (hc : p = [] ∨ s < 0) (ho : ¬ I64 (s + r.getLast hr)) : ¬ I64 t := by
  have h1 := h.r0 _ (last_mem hr)
  have h2 := h.s64
  have h3 := h.sum
  have h4 := sum_last hr
  have h5 : 0 ≤ r.dropLast.sum := sum_nonneg fun x hx => (h.r0 x ((List.dropLast_sublist _).subset hx)).1
  unfold I64 at *
  rcases hc with rfl | hc
  · simp at h3; omega
  · omega
theorem Way.poor_over {t s : Int} {r p : List Int} (h : Way t s r p) (hp : p ≠ []) (hc : r = [] ∨ 0 ≤ s) (ho : ¬ I64 (s + p.getLast hp)) : ¬ I64 t := by
  have h1 := h.p0 _ (last_mem hp)
  have h2 := h.s64
  have h3 := h.sum
  have h4 := sum_last hp
  have h5 : p.dropLast.sum ≤ 0 := sum_nonpos fun x hx => (h.p0 x ((List.dropLast_sublist _).subset hx)).1
  unfold I64 at *
  rcases hc with rfl | hc
  · simp at h3; omega
  · omega
end Go.Proofs.Ytbdhbongaikphaa.CM
