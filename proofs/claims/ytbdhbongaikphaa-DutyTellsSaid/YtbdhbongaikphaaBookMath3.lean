/- Plain: what the reference's Set and Price answer, and that it is what the book answers. -/
import Derived.Test.YtbdhbongaikphaaBookJ
namespace Go.Proofs.Ytbdhbongaikphaa.BK
open Go.Proofs.Ytbdhbongaikphaa.Cents
set_option linter.unusedVariables false
set_option linter.unusedSimpArgs false

def rsetE (n : Nat) (L : List Pz) (item day cost : Int) : Int :=
  if inI n item = true then (if day < 1 ∨ 1000000 < day ∨ cost < 1 then 1 else if twice L item day = true then 6 else if 100 ≤ many L item then 4 else 0) else 5
def rsetL (n : Nat) (L : List Pz) (item day cost : Int) : List Pz := if rsetE n L item day cost = 0 then L ++ [⟨item, day, cost⟩] else L
def rpriceN (its : List It) (L : List Pz) (item day : Int) : Int := if priceE its.length item day = 0 then (rfold (itAt its item.toNat).price L item day).2 else 0
/-- The book's rows hold just what the reference has. -/
structure Match (its : List It) (R : List PRow) (L : List Pz) : Prop where
  row : ∀ i, i < its.length → Same (rowAt R i) (itAt its i).price L (i : Int)
theorem match_new (its : List It) : Match its (rows0 its) [] := ⟨fun i hi => by rw [rowAt0 hi]; exact same_start _ _⟩
theorem inI_nat {n : Nat} {item : Int} (h : inI n item = true) : ∃ i : Nat, item = (i : Int) ∧ i < n := by
  unfold inI at h
  simp only [Bool.and_eq_true, decide_eq_true_eq] at h
  obtain ⟨i, rfl⟩ := Int.eq_ofNat_of_zero_le h.1
  exact ⟨i, rfl, by omega⟩
theorem Match.setE {its : List It} {R : List PRow} {L : List Pz} (h : Match its R L) (item day cost : Int) : rsetE its.length L item day cost = setE its R item day cost := by
  unfold rsetE BK.setE
  cases hi : inI its.length item with
  | false => rw [if_neg (by simp), if_neg (by simp)]
  | true =>
    rw [if_pos rfl, if_pos rfl]
    obtain ⟨i, rfl, hlt⟩ := inI_nat hi
    rw [Int.toNat_natCast]
    have hs := h.row i hlt
    by_cases hd : day < 1 ∨ 1000000 < day ∨ cost < 1
    · rw [if_pos hd, if_pos hd]
    · rw [if_neg hd, if_neg hd, hs.twice (by omega)]
      split
      · rfl
      · rw [hs.len]
        by_cases c : 100 ≤ many L (i : Int)
        · rw [if_pos c, if_pos (by omega)]
        · rw [if_neg c, if_neg (by omega)]
theorem Match.set {its : List It} {R : List PRow} {L : List Pz} (h : Match its R L) (hrl : R.length = its.length) (item day cost : Int) : Match its (setR its R item day cost) (rsetL its.length L item day cost) := by
  unfold setR rsetL
  rw [h.setE]
  by_cases h0 : BK.setE its R item day cost = 0
  · rw [if_pos h0, if_pos h0]
    obtain ⟨a1, a2, a3, a4, a5, a6, a7, a8⟩ := setE_ok h0
    refine ⟨fun i hi => ?_⟩
    rw [rowAt_set (by omega)]
    by_cases c : i = item.toNat
    · subst c
      rw [if_pos rfl]
      have := (h.row _ a7).put (n := cost) a2 a5
      rw [show ((item.toNat : Nat) : Int) = item by omega] at this ⊢
      exact this
    · rw [if_neg c]
      exact (h.row i hi).other a2 (by omega)
  · rw [if_neg h0, if_neg h0]
    exact h
theorem Match.price {its : List It} {R : List PRow} {L : List Pz} (h : Match its R L) (item day : Int) : rpriceN its L item day = priceN its R item day := by
  unfold rpriceN priceN
  by_cases he : priceE its.length item day = 0
  · rw [if_pos he, if_pos he]
    obtain ⟨h1, h2⟩ := priceE_in he
    obtain ⟨i, rfl, hlt⟩ := inI_nat h1
    rw [Int.toNat_natCast]
    exact (h.row i hlt).price h2
  · rw [if_neg he, if_neg he]
theorem many_take {L : List Pz} {k : Nat} (h : k < L.length) (item : Int) : many (L.take (k + 1)) item = many (L.take k) item + if (pzAt L k).item = item then 1 else 0 := by
  unfold many
  rw [List.take_succ_eq_append_getElem h, List.countP_append]
  simp [pzAt, List.getD_eq_getElem?_getD, h, List.countP_cons]
theorem twice_take {L : List Pz} {k : Nat} (h : k < L.length) (item day : Int) : twice (L.take (k + 1)) item day = (twice (L.take k) item day || (decide ((pzAt L k).item = item) && decide ((pzAt L k).day = day))) := by
  unfold twice
  rw [List.take_succ_eq_append_getElem h, List.any_append]
  simp [pzAt, List.getD_eq_getElem?_getD, h]
theorem twice_mem {L : List Pz} {k : Nat} (h : k < L.length) {item day : Int} (h1 : (pzAt L k).item = item) (h2 : (pzAt L k).day = day) : twice L item day = true := by
  unfold twice
  rw [List.any_eq_true]
  exact ⟨_, pzAt_mem h, by simp [h1, h2]⟩
theorem rfold_take {L : List Pz} {k : Nat} (h : k < L.length) (p0 item day : Int) : rfold p0 (L.take (k + 1)) item day = rstep item day (rfold p0 (L.take k) item day) (pzAt L k) := by
  unfold rfold
  rw [List.take_succ_eq_append_getElem h, List.foldl_append]
  simp [pzAt, List.getD_eq_getElem?_getD, h]
theorem many_le (L : List Pz) (item : Int) : many L item ≤ L.length := List.countP_le_length
end Go.Proofs.Ytbdhbongaikphaa.BK
