/- Rows of structs: the cells of element j. Over any program. -/
import Derived.Test.YtbdhbongaikphaaMem2
namespace Go.Proofs.Ytbdhbongaikphaa
open Go.RowKit
set_option linter.unusedVariables false

theorem flat_len {α : Type} {f : α → List Value} {k : Nat} (hk : ∀ x, (f x).length = k) (xs : List α) : (xs.flatMap f).length = xs.length * k := by
  induction xs with
  | nil => simp
  | cons x xs ih => rw [List.flatMap_cons, List.length_append, hk, ih, List.length_cons, Nat.add_mul]; omega
theorem flat_at {α : Type} {f : α → List Value} {k : Nat} (hk : ∀ x, (f x).length = k) {xs : List α} {j : Nat} (h : j < xs.length) (i : Nat) (hi : i < k) : (xs.flatMap f)[j * k + i]? = (f xs[j])[i]? := by
  induction xs generalizing j with
  | nil => simp at h
  | cons x xs ih =>
    cases j with
    | zero => rw [List.flatMap_cons, List.getElem?_append_left (by rw [hk]; omega)]; simp
    | succ j =>
      have e : (j + 1) * k = j * k + k := by rw [Nat.add_mul, Nat.one_mul]
      rw [List.flatMap_cons, List.getElem?_append_right (by rw [hk, e]; omega), hk, e, show j * k + k + i - k = j * k + i by omega]
      simpa using ih (j := j) (by simpa using h)
/-- The cells of element j of a row of structs. -/
theorem Row.elem {α : Type} {f : α → List Value} {k : Nat} (hk : ∀ x, (f x).length = k) (hk0 : 0 < k) {w : World} {base : Nat} {A : Option Addr} {xs : List α} (hr : Row w base A (xs.flatMap f)) {j : Nat} (h : j < xs.length) :
    ∃ ad, A = some ad ∧ base ≤ ad.block ∧ (∀ u, (f xs[j])[0]? = some u → w.cell? (ad.add (j * k)) = some u) ∧ ∀ i u, 0 < i → (f xs[j])[i]? = some u → w.cell? ⟨(ad.add (j * k)).block, (ad.add (j * k)).off + i, none⟩ = some u := by
  have hpos : 0 < (xs.flatMap f).length := by rw [flat_len hk]; exact Nat.mul_pos (by omega) hk0
  obtain ⟨ad, e, hb, hc⟩ := hr hpos
  refine ⟨ad, e, hb, fun u hu => ?_, fun i u hi hu => ?_⟩
  · have h0 := flat_at hk h 0 hk0
    exact hc (j * k + 0) u (h0.trans hu)
  · have hik : i < k := by
      have := (List.getElem?_eq_some_iff.1 hu).1
      rwa [hk] at this
    have := hc (j * k + i) u ((flat_at hk h i hik).trans hu)
    rw [← add_add] at this
    generalize ad.add (j * k) = p at *
    unfold Addr.add at this
    rw [if_neg (by omega)] at this
    exact this
end Go.Proofs.Ytbdhbongaikphaa
