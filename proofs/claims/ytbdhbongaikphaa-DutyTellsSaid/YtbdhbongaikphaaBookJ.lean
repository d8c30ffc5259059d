/- What the laws of books lean on: prices that are set, one behind another; is it large. -/
import Derived.Test.YtbdhbongaikphaaBookI
namespace Go.Proofs.Ytbdhbongaikphaa.BK
open Go.RowKit Go.Proofs.Ytbdhbongaikphaa.Cents
set_option linter.unusedVariables false
set_option linter.unusedSimpArgs false

def Pz.cell (x : Pz) : List Value := [.int .i64 x.item, .int .i64 x.day, .int .i64 x.n]
def Pz.val (x : Pz) : Value := .agg #[.int .i64 x.item, .int .i64 x.day, .int .i64 x.n]
def Pz.I (x : Pz) : Prop := I64 x.item ∧ I64 x.day ∧ I64 x.n
def zcells (l : List Pz) : List Value := l.flatMap Pz.cell
def pzAt (l : List Pz) (i : Nat) : Pz := l.getD i ⟨0, 0, 0⟩
theorem pz_len (x : Pz) : x.cell.length = 3 := rfl
theorem z_cells {w : World} {A : Option Addr} {l : List Pz} (hr : Row w 0 A (zcells l)) {j : Nat} (h : j < l.length) :
    ∃ ad, A = some ad ∧ w.cell? (ad.add (j * 3)) = some (.int .i64 (pzAt l j).item) ∧ w.cell? ⟨(ad.add (j * 3)).block, (ad.add (j * 3)).off + 1, none⟩ = some (.int .i64 (pzAt l j).day) ∧ w.cell? ⟨(ad.add (j * 3)).block, (ad.add (j * 3)).off + 2, none⟩ = some (.int .i64 (pzAt l j).n) := by
  obtain ⟨ad, e, _, h0, hi⟩ := Row.elem pz_len (by omega) hr h
  have he : pzAt l j = l[j] := by simp [pzAt, List.getD_eq_getElem?_getD, h]
  rw [he]
  exact ⟨ad, e, h0 _ rfl, hi 1 _ (by omega) rfl, hi 2 _ (by omega) rfl⟩
theorem pzAt_mem {xs : List Pz} {j : Nat} (h : j < xs.length) : pzAt xs j ∈ xs := by
  unfold pzAt
  rw [List.getD_eq_getElem?_getD, List.getElem?_eq_getElem h]
  exact List.getElem_mem h
def sets (its : List It) (R : List PRow) (l : List Pz) : List PRow := l.foldl (fun R p => setR its R p.item p.day p.n) R
theorem sets_take {its : List It} {R : List PRow} {l : List Pz} {k : Nat} (h : k < l.length) : sets its R (l.take (k + 1)) = setR its (sets its R (l.take k)) (pzAt l k).item (pzAt l k).day (pzAt l k).n := by
  unfold sets
  rw [List.take_succ_eq_append_getElem h, List.foldl_append]
  simp [pzAt, List.getD_eq_getElem?_getD, h]
theorem sets_BkOk {its : List It} {R : List PRow} (hk : BkOk its R) (l : List Pz) (hl : ∀ p ∈ l, I64 p.n) : BkOk its (sets its R l) := by
  induction l generalizing R with
  | nil => exact hk
  | cons p l ih => exact ih (set_BkOk hk p.item p.day p.n (hl p List.mem_cons_self)) fun q hq => hl q (List.mem_cons_of_mem _ hq)
def largeI (n m : Nat) : Bool := decide (50 < n) || decide (130 < m)
theorem toNat_ne {n : Nat} {a b : Int} (ha : inI n a = true) (hb : 0 ≤ b) (h : a ≠ b) : a.toNat ≠ b.toNat := by
  unfold inI at ha
  simp only [Bool.and_eq_true, decide_eq_true_eq] at ha
  omega
theorem priceE_in {n : Nat} {item day : Int} (h : priceE n item day = 0) : inI n item = true ∧ 0 ≤ day := by
  unfold priceE at h
  split at h
  · rename_i hi
    split at h
    · omega
    · exact ⟨hi, by omega⟩
  · omega
theorem set_same {its : List It} {R : List PRow} {item day n : Int} (h : setE its R item day n ≠ 0) : setR its R item day n = R := by unfold setR; rw [if_neg h]
theorem price_other {its : List It} {R : List PRow} (hk : BkOk its R) {item day n i2 d2 : Int} (h : i2 ≠ item) : priceN its (setR its R item day n) i2 d2 = priceN its R i2 d2 := by
  unfold priceN
  by_cases he : priceE its.length i2 d2 = 0
  · rw [if_pos he, if_pos he]
    obtain ⟨h1, h2⟩ := priceE_in he
    by_cases hs : setE its R item day n = 0
    · have hs2 := setE_ok hs
      unfold setR
      rw [if_pos hs, rowAt_set (by rw [hk.rlen]; exact hs2.2.2.2.2.2.2.1), if_neg (toNat_ne h1 hs2.2.2.2.2.2.2.2 h)]
    · rw [set_same hs]
  · rw [if_neg he, if_neg he]
theorem price_ahead {its : List It} {R : List PRow} (hk : BkOk its R) {item day n d2 : Int} (h : d2 < day) : priceN its (setR its R item day n) item d2 = priceN its R item d2 := by
  unfold priceN
  by_cases he : priceE its.length item d2 = 0
  · rw [if_pos he, if_pos he]
    obtain ⟨h1, h2⟩ := priceE_in he
    by_cases hs : setE its R item day n = 0
    · obtain ⟨a1, a2, a3, a4, a5, a6, a7, a8⟩ := setE_ok hs
      unfold setR
      rw [if_pos hs, rowAt_set (by rw [hk.rlen]; exact a7), if_pos rfl]
      exact put_before (hk.row _ a7).asc a5 (first_le (hk.row _ a7) h2) h
    · rw [set_same hs]
  · rw [if_neg he, if_neg he]
theorem price_set {its : List It} {R : List PRow} (hk : BkOk its R) {item day n d2 : Int} (hs : setE its R item day n = 0) (h : day ≤ d2) :
    (priceN its (setR its R item day n) item day = n ∧ priceE its.length item day = 0) ∧ (priceN its (setR its R item day n) item d2 = n ∨ priceN its (setR its R item day n) item d2 = priceN its R item d2) := by
  obtain ⟨a1, a2, a3, a4, a5, a6, a7, a8⟩ := setE_ok hs
  have e1 : ∀ d, 0 ≤ d → priceE its.length item d = 0 := fun d hd => by unfold priceE; rw [if_pos a1, if_neg (by omega)]
  unfold priceN
  rw [e1 day (by omega), if_pos rfl, e1 d2 (by omega), if_pos rfl, if_pos rfl]
  unfold setR
  rw [if_pos hs, rowAt_set (by rw [hk.rlen]; exact a7), if_pos rfl]
  exact ⟨⟨put_at (hk.row _ a7).asc a5, rfl⟩, put_behind (hk.row _ a7).asc a5 (first_le (hk.row _ a7) (by omega)) h⟩
end Go.Proofs.Ytbdhbongaikphaa.BK
