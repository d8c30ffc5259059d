/- Obligations of a book's lines, as plain data. -/
import Derived.Test.YtbdhbongaikphaaBookI
import Derived.Test.YtbdhbongaikphaaDutyMath
namespace Go.Proofs.Ytbdhbongaikphaa.BK
open Go.RowKit Go.Proofs.Ytbdhbongaikphaa.Cents Go.Proofs.Ytbdhbongaikphaa.DU
set_option linter.unusedVariables false
set_option linter.unusedSimpArgs false

theorem price0 {its : List It} {item day : Int} (hin : inI its.length item = true) (hd : ¬ day < 0) : priceN its (rows0 its) item day = (itAt its item.toNat).price := by
  have hi : item.toNat < its.length := by
    unfold inI at hin
    simp only [Bool.and_eq_true, decide_eq_true_eq] at hin
    omega
  unfold priceN priceE
  rw [if_pos hin, if_neg hd, if_pos rfl, rowAt0 hi]
  by_cases h0 : day = 0
  · subst h0
    simp [priceAt, costAt, told, isAt, pos, dayAt]
  · have h1 : 0 < day := by omega
    simp [priceAt, costAt, told, isAt, pos, dayAt, h1]
theorem item_ok {its : List It} (hE : newE its = 0) {item : Int} (hin : inI its.length item = true) : wrongI (itAt its item.toNat) = false ∧ itN its item = itAt its item.toNat := by
  have hi : item.toNat < its.length := by
    unfold inI at hin
    simp only [Bool.and_eq_true, decide_eq_true_eq] at hin
    omega
  refine ⟨?_, by unfold itN; rw [if_pos hin]⟩
  unfold newE at hE
  split at hE
  · omega
  · split at hE
    · omega
    · rename_i h
      have h : anyW its = false := by simpa using h
      unfold anyW at h
      rw [List.any_eq_false] at h
      have := h _ (itAt_mem hi)
      simpa using this
theorem price_pos {x : It} (h : wrongI x = false) : 1 ≤ x.price ∧ 0 ≤ x.tag ∧ x.tag ≤ 2 := by
  unfold wrongI at h
  simp only [Bool.or_eq_false_iff, decide_eq_false_iff_not] at h
  omega
theorem may_facts {n : Nat} {x : Ln} (h : mayI n x = true) : inI n x.item = true ∧ 1 ≤ x.units ∧ 0 ≤ x.charge ∧ 1 ≤ x.first ∧ x.first ≤ x.last ∧ x.last ≤ 1000000 := by
  unfold mayI at h
  simp only [Bool.and_eq_true, decide_eq_true_eq] at h
  exact ⟨h.1, h.2.1, h.2.2.1, h.2.2.2.1, h.2.2.2.2.1, h.2.2.2.2.2⟩
theorem alone0 {its : List It} (hE : newE its = 0) {x : Ln} {day : Int} (hm : mayI its.length x = true) (hd : ¬ day < 0) : 0 ≤ aloneN its (rows0 its) x day ∧ (aloneE its (rows0 its) x day = 0 ∨ aloneE its (rows0 its) x day = 3) ∧ I64 (aloneN its (rows0 its) x day) := by
  have hf := may_facts hm
  have hp := (price_pos (item_ok hE hf.1).1).1
  have hno : ¬ (mayI its.length x = false ∨ day < 0) := fun c => by
    rcases c with c | c
    · rw [hm] at c; cases c
    · exact hd c
  have hno2 : ¬ ((1 : Int) < 1 ∨ x.units < 0) := by omega
  unfold aloneN aloneE partN partE
  rw [if_neg hno, if_neg hno, if_neg hno2, if_neg hno2, price0 hf.1 hd, Int.ediv_one]
  have h0 : 0 ≤ (itAt its x.item.toNat).price * x.units := Int.mul_nonneg (by omega) (by omega)
  by_cases c : I64 ((itAt its x.item.toNat).price * x.units)
  · rw [if_pos c, if_pos c]; exact ⟨h0, .inl rfl, c⟩
  · rw [if_neg c, if_neg c]; exact ⟨Int.le_refl _, .inr rfl, by decide, by decide⟩
/-- A line's key: by tag, what it goes by. -/
def lkey (its : List It) (at_ : Nat) (x : Ln) : Int × Int := if (itN its x.item).tag = 1 then (1, (itN its x.item).group) else if (itN its x.item).tag = 2 then (2, x.item) else (0, (at_ : Int))
def lnd (its : List It) (R : List PRow) (day : Int) (at_ : Nat) (x : Ln) : LnD := ⟨lkey its at_ x, aloneN its R x day, x.units, (itN its x.item).method, x.first, x.last, aloneE its R x day⟩
def fL (its : List It) (R : List PRow) (day : Int) (ls : List Ln) : Nat → LnD := fun i => lnd its R day i (lnAt ls i)
theorem check_all {n : Nat} {ls : List Ln} (h : checkE n ls = 0) : 1 ≤ ls.length ∧ ls.length ≤ 12 ∧ ∀ i, i < ls.length → mayI n (lnAt ls i) = true := by
  unfold checkE at h
  split at h
  · omega
  · split at h
    · omega
    · split at h
      · omega
      · rename_i h1 h2 h3
        have h2 : ls.all (mayI n) = true := by simpa using h2
        rw [List.all_eq_true] at h2
        exact ⟨by omega, by omega, fun i hi => h2 _ (lnAt_mem hi)⟩
theorem pos_fL {its : List It} (hE : newE its = 0) {ls : List Ln} {day : Int} (hc : checkE its.length ls = 0) (hd : ¬ day < 0) : Pos (fL its (rows0 its) day ls) ls.length := fun i hi => by
  have hm := (check_all hc).2.2 i hi
  have h1 := may_facts hm
  exact ⟨(alone0 hE hm hd).1, by show 0 ≤ (lnAt ls i).units; omega⟩
open Classical in
/-- What Find answers. -/
noncomputable def findE (its : List It) (R : List PRow) (day : Int) (ls : List Ln) : Int :=
  if day < 0 then 1 else if checkE its.length ls = 0 then (if okAll (fL its R day ls) ls.length then 0 else 3) else checkE its.length ls
noncomputable def findL (its : List It) (R : List PRow) (day : Int) (ls : List Ln) : List Du := if findE its R day ls = 0 then dus (fL its R day ls) ls.length else []
end Go.Proofs.Ytbdhbongaikphaa.BK
