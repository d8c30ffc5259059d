/- Plain: in whichever order prices are set, the same is told. -/
import Derived.Test.YtleocecfcamjnaaBookT
namespace Go.Proofs.Ytleocecfcamjnaa.BK
open Go.Proofs.Ytleocecfcamjnaa.Cents
set_option linter.unusedVariables false
set_option linter.unusedSimpArgs false

def Apart (l : List Pz) : Prop := l.Pairwise fun p q => ¬ (p.item = q.item ∧ p.day = q.day)
def okP (n : Nat) (p : Pz) : Bool := inI n p.item && (decide (1 ≤ p.day) && (decide (p.day ≤ 1000000) && decide (1 ≤ p.n)))
theorem rsetE_bad {n : Nat} {L : List Pz} {p : Pz} (h : okP n p = false) : rsetE n L p.item p.day p.n ≠ 0 := by
  unfold rsetE
  cases hi : inI n p.item with
  | false => simp
  | true =>
    unfold okP at h
    rw [hi, Bool.true_and] at h
    rw [if_pos rfl, if_pos]
    · decide
    · by_cases h1 : 1 ≤ p.day
      · by_cases h2 : p.day ≤ 1000000
        · by_cases h3 : 1 ≤ p.n
          · simp [h1, h2, h3] at h
          · omega
        · omega
      · omega
theorem rsetE_good {n : Nat} {L : List Pz} {p : Pz} (h : okP n p = true) (ht : twice L p.item p.day = false) (hm : many L p.item < 100) : rsetE n L p.item p.day p.n = 0 := by
  unfold okP at h
  simp only [Bool.and_eq_true, decide_eq_true_eq] at h
  obtain ⟨h1, h2, h3, h4⟩ := h
  unfold rsetE
  rw [if_pos h1, if_neg (by omega), ht, if_neg (by simp), if_neg (by omega)]
theorem rsets_filter (n : Nat) : ∀ (l L : List Pz), Apart (L ++ l) → L.length + l.length ≤ 100 → l.foldl (fun L p => rsetL n L p.item p.day p.n) L = L ++ l.filter (okP n) := by
  intro l
  induction l with
  | nil => intro L _ _; simp
  | cons p l ih =>
    intro L ha hl
    simp only [List.length_cons] at hl
    rw [List.foldl_cons]
    cases h : okP n p with
    | false =>
      rw [show rsetL n L p.item p.day p.n = L by unfold rsetL; rw [if_neg (rsetE_bad h)], ih L ?_ (by omega), List.filter_cons, h]
      · simp
      · exact ha.sublist (List.append_sublist_append_left L |>.2 (List.sublist_cons_self p l))
    | true =>
      have ht : twice L p.item p.day = false := by
        unfold twice
        rw [List.any_eq_false]
        intro x hx hc
        simp only [Bool.and_eq_true, decide_eq_true_eq] at hc
        exact (List.pairwise_append.1 ha).2.2 x hx p List.mem_cons_self hc
      have hm : many L p.item < 100 := by have := many_le L p.item; omega
      rw [show rsetL n L p.item p.day p.n = L ++ [p] by unfold rsetL; rw [if_pos (rsetE_good h ht hm)], ih (L ++ [p]) (by rw [List.append_assoc]; exact ha) (by simp; omega), List.filter_cons, h]
      simp
theorem apart_rev {l : List Pz} (h : Apart l) : Apart l.reverse := by
  unfold Apart at *
  rw [List.pairwise_reverse]
  exact h.imp fun hn hc => hn ⟨hc.1.symm, hc.2.symm⟩
/-- The same is told. -/
theorem same_told {its : List It} (hI : ∀ x ∈ its, ItI x) (hE : newE its = 0) {l : List Pz} (hl : ∀ p ∈ l, I64 p.n) (ha : Apart l) (h100 : l.length ≤ 100) (item day : Int) :
    priceN its (sets its (rows0 its) l) item day = priceN its (sets its (rows0 its) l.reverse) item day := by
  unfold priceN
  by_cases he : priceE its.length item day = 0
  · rw [if_pos he, if_pos he]
    obtain ⟨h1, h2⟩ := priceE_in he
    obtain ⟨i, rfl, hlt⟩ := inI_nat h1
    rw [Int.toNat_natCast]
    have m1 := (rsets_ok hI hE l hl).1.row i hlt
    have m2 := (rsets_ok hI hE l.reverse (fun p hp => hl p (List.mem_reverse.1 hp))).1.row i hlt
    have f1 : rsets its.length l = l.filter (okP its.length) := by
      have := rsets_filter its.length l [] (by simpa using ha) (by simpa using h100)
      simpa [rsets] using this
    have f2 : rsets its.length l.reverse = l.reverse.filter (okP its.length) := by
      have := rsets_filter its.length l.reverse [] (by simpa using apart_rev ha) (by simpa using h100)
      simpa [rsets] using this
    rw [f1] at m1
    rw [f2] at m2
    have : rowAt (sets its (rows0 its) l) i = rowAt (sets its (rows0 its) l.reverse) i := asc_eq m1.asc m2.asc fun p => by
      rw [m1.mem, m2.mem]
      simp only [List.mem_filter, List.mem_reverse]
    rw [this]
  · rw [if_neg he, if_neg he]
theorem apart_snoc {l : List Pz} {p : Pz} (h : Apart l) (hn : ∀ q ∈ l, ¬ (q.item = p.item ∧ q.day = p.day)) : Apart (l ++ [p]) := by
  unfold Apart
  rw [List.pairwise_append]
  refine ⟨h, by simp, fun q hq r hr => ?_⟩
  rw [List.mem_singleton] at hr
  subst hr
  exact hn q hq
theorem rev_take {l : List Pz} {k : Nat} (h : k < l.length) : pzAt l.reverse k = pzAt l (l.length - 1 - k) := by
  unfold pzAt
  rw [List.getD_eq_getElem?_getD, List.getD_eq_getElem?_getD, List.getElem?_reverse h]
end Go.Proofs.Ytleocecfcamjnaa.BK
