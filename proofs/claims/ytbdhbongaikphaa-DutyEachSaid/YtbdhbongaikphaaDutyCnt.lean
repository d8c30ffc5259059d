/- Counting lines: each is of one obligation. -/
import Derived.Test.YtbdhbongaikphaaDutyMath
namespace Go.Proofs.Ytbdhbongaikphaa.DU
open Go.Proofs.Ytbdhbongaikphaa.Cents
set_option linter.unusedVariables false

/-- How often each line has been met. -/
def cnt (n : Nat) (P : List Nat) : List Int := (List.range n).map (fun k => ((P.count k : Nat) : Int))
theorem cnt_len (n : Nat) (P : List Nat) : (cnt n P).length = n := by simp [cnt]
theorem cnt_at {n k : Nat} (h : k < n) (P : List Nat) : (cnt n P).getD k 0 = ((P.count k : Nat) : Int) := by
  simp [cnt, List.getD_eq_getElem?_getD, h]
theorem cnt_nil (n : Nat) : cnt n [] = List.replicate n 0 := by
  apply List.ext_getElem
  · simp [cnt]
  · intro a h1 h2; simp [cnt]
theorem cnt_snoc {n a : Nat} (h : a < n) (P : List Nat) : cnt n (P ++ [a]) = (cnt n P).set a ((cnt n P).getD a 0 + 1) := by
  apply List.ext_getElem
  · simp [cnt]
  · intro k h1 h2
    have hk : k < n := by simpa [cnt] using h1
    have hc := cnt_at h P
    rw [List.getElem_set]
    by_cases c : a = k
    · subst c
      rw [if_pos rfl, hc]
      simp [cnt, List.count_append]
    · rw [if_neg c]
      simp [cnt, List.count_append, List.count_singleton, c]
def flatL (l : List Du) : List Nat := l.flatMap (·.ls)
theorem flatL_take {l : List Du} {t : Nat} (h : t < l.length) : flatL (l.take (t + 1)) = flatL (l.take t) ++ l[t].ls := by
  unfold flatL
  rw [List.take_succ_eq_append_getElem h, List.flatMap_append]
  simp
theorem count_flat (l : List Du) (k : Nat) : (((flatL l).count k : Nat) : Int) = (l.map (fun d => ((d.ls.count k : Nat) : Int))).sum := by
  induction l with
  | nil => rfl
  | cons d l ih =>
    show ((((d.ls ++ flatL l).count k : Nat)) : Int) = _
    rw [List.count_append, List.map_cons, List.sum_cons, ← ih]
    omega
theorem cnt_all {f : Nat → LnD} {n k : Nat} (h : k < n) : (cnt n (flatL (dus f n))).getD k 0 = 1 := by
  rw [cnt_at h, count_flat, count_all, if_pos h]
end Go.Proofs.Ytbdhbongaikphaa.DU
