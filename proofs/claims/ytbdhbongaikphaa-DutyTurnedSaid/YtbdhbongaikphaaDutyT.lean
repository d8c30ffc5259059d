/- Lines turned about are the mirror of lines, as plain data. -/
import Derived.Test.YtbdhbongaikphaaDutyA
import Derived.Test.YtbdhbongaikphaaDutyTurn
namespace Go.Proofs.Ytbdhbongaikphaa.BK
open Go.RowKit Go.Proofs.Ytbdhbongaikphaa.Cents Go.Proofs.Ytbdhbongaikphaa.DU
set_option linter.unusedVariables false
set_option linter.unusedSimpArgs false

theorem lnAt_rev {ls : List Ln} {i : Nat} (h : i < ls.length) : lnAt ls.reverse i = lnAt ls (ls.length - 1 - i) := by
  unfold lnAt
  rw [List.getD_eq_getElem?_getD, List.getD_eq_getElem?_getD, List.getElem?_reverse h]
theorem lkey_turn (its : List It) (x y : Ln) (i k i' k' : Nat) (h : i = k ↔ i' = k') : lkey its i x = lkey its k y ↔ lkey its i' x = lkey its k' y := by
  have hc : ((i : Int) = (k : Int)) ↔ ((i' : Int) = (k' : Int)) := by omega
  unfold lkey
  by_cases a1 : (itN its x.item).tag = 1
  · rw [if_pos a1, if_pos a1]
    by_cases b1 : (itN its y.item).tag = 1
    · rw [if_pos b1, if_pos b1]
    · rw [if_neg b1, if_neg b1]
      by_cases b2 : (itN its y.item).tag = 2
      · rw [if_pos b2, if_pos b2]
      · rw [if_neg b2, if_neg b2]
        simp
  · rw [if_neg a1, if_neg a1]
    by_cases a2 : (itN its x.item).tag = 2
    · rw [if_pos a2, if_pos a2]
      by_cases b1 : (itN its y.item).tag = 1
      · rw [if_pos b1, if_pos b1]
      · rw [if_neg b1, if_neg b1]
        by_cases b2 : (itN its y.item).tag = 2
        · rw [if_pos b2, if_pos b2]
        · rw [if_neg b2, if_neg b2]
          simp
    · rw [if_neg a2, if_neg a2]
      by_cases b1 : (itN its y.item).tag = 1
      · rw [if_pos b1, if_pos b1]
        simp
      · rw [if_neg b1, if_neg b1]
        by_cases b2 : (itN its y.item).tag = 2
        · rw [if_pos b2, if_pos b2]
          simp
        · rw [if_neg b2, if_neg b2]
          simp only [Prod.mk.injEq, true_and]
          exact hc
theorem mirror_fL (its : List It) (R : List PRow) (day : Int) (ls : List Ln) : Mirror (fL its R day ls) (fL its R day ls.reverse) ls.length := by
  refine ⟨fun i hi => ?_, fun i hi => ?_, fun i hi => ?_, fun i hi => ?_, fun i hi => ?_, fun i k hi hk => ?_⟩
  · show aloneN its R (lnAt ls.reverse i) day = aloneN its R (lnAt ls (ls.length - 1 - i)) day
    rw [lnAt_rev hi]
  · show (lnAt ls.reverse i).units = (lnAt ls (ls.length - 1 - i)).units
    rw [lnAt_rev hi]
  · show (lnAt ls.reverse i).first = (lnAt ls (ls.length - 1 - i)).first
    rw [lnAt_rev hi]
  · show (lnAt ls.reverse i).last = (lnAt ls (ls.length - 1 - i)).last
    rw [lnAt_rev hi]
  · show aloneE its R (lnAt ls.reverse i) day = aloneE its R (lnAt ls (ls.length - 1 - i)) day
    rw [lnAt_rev hi]
  · show lkey its i (lnAt ls.reverse i) = lkey its k (lnAt ls.reverse k) ↔ lkey its (ls.length - 1 - i) (lnAt ls (ls.length - 1 - i)) = lkey its (ls.length - 1 - k) (lnAt ls (ls.length - 1 - k))
    rw [lnAt_rev hi, lnAt_rev hk]
    exact lkey_turn its _ _ i k _ _ (by omega)
theorem check_rev (n : Nat) (ls : List Ln) : checkE n ls.reverse = checkE n ls := by
  unfold checkE
  rw [List.length_reverse, List.all_reverse]
theorem findE_rev (its : List It) (R : List PRow) (day : Int) (ls : List Ln) : findE its R day ls.reverse = findE its R day ls := by
  have hm := ok_mirror (mirror_fL its R day ls)
  unfold findE
  rw [check_rev, List.length_reverse]
  by_cases h1 : day < 0
  · rw [if_pos h1, if_pos h1]
  · rw [if_neg h1, if_neg h1]
    by_cases h2 : checkE its.length ls = 0
    · rw [if_pos h2, if_pos h2]
      by_cases h3 : okAll (fL its R day ls) ls.length
      · rw [if_pos h3, if_pos (hm.1 h3)]
      · rw [if_neg h3, if_neg (fun c => h3 (hm.2 c))]
    · rw [if_neg h2, if_neg h2]
end Go.Proofs.Ytbdhbongaikphaa.BK
