/- The walks of what a book tells of items and lines: Item, may, Check, Alone. -/
import Derived.Test.YtbdhbongaikphaaBookF
import Derived.Test.YtbdhbongaikphaaCentsPart
namespace Go.Proofs.Ytbdhbongaikphaa.BK
open Go.RowKit Go.Proofs.Ytbdhbongaikphaa.Cents
set_option linter.unusedVariables false
set_option linter.unusedSimpArgs false

/-- A line. -/
structure Ln where
  item : Int
  units : Int
  charge : Int
  first : Int
  last : Int
deriving DecidableEq
def Ln.cell (x : Ln) : List Value := [.int .i64 x.item, .int .i64 x.units, .int .i64 x.charge, .int .i64 x.first, .int .i64 x.last]
def Ln.val (x : Ln) : Value := .agg #[.int .i64 x.item, .int .i64 x.units, .int .i64 x.charge, .int .i64 x.first, .int .i64 x.last]
def lnAt (l : List Ln) (i : Nat) : Ln := l.getD i ⟨0, 0, 0, 0, 0⟩
def lcells (l : List Ln) : List Value := l.flatMap Ln.cell
theorem ln_len (x : Ln) : x.cell.length = 5 := rfl
theorem l_cells {w : World} {A : Option Addr} {l : List Ln} (hr : Row w 0 A (lcells l)) {j : Nat} (h : j < l.length) :
    ∃ ad, A = some ad ∧ w.cell? (ad.add (j * 5)) = some (.int .i64 (lnAt l j).item) ∧ w.cell? ⟨(ad.add (j * 5)).block, (ad.add (j * 5)).off + 1, none⟩ = some (.int .i64 (lnAt l j).units) ∧ w.cell? ⟨(ad.add (j * 5)).block, (ad.add (j * 5)).off + 2, none⟩ = some (.int .i64 (lnAt l j).charge) ∧ w.cell? ⟨(ad.add (j * 5)).block, (ad.add (j * 5)).off + 3, none⟩ = some (.int .i64 (lnAt l j).first) ∧ w.cell? ⟨(ad.add (j * 5)).block, (ad.add (j * 5)).off + 4, none⟩ = some (.int .i64 (lnAt l j).last) := by
  obtain ⟨ad, e, _, h0, hi⟩ := Row.elem ln_len (by omega) hr h
  have he : lnAt l j = l[j] := by simp [lnAt, List.getD_eq_getElem?_getD, h]
  rw [he]
  exact ⟨ad, e, h0 _ rfl, hi 1 _ (by omega) rfl, hi 2 _ (by omega) rfl, hi 3 _ (by omega) rfl, hi 4 _ (by omega) rfl⟩
def mayI (n : Nat) (x : Ln) : Bool := inI n x.item && (decide (1 ≤ x.units) && (decide (0 ≤ x.charge) && (decide (1 ≤ x.first) && (decide (x.first ≤ x.last) && decide (x.last ≤ 1000000)))))
set_option maxRecDepth 100000 in
theorem may_any {S : Nat → Prop} {b : Nat} {its : List It} {rows : List PRow} {w : World} (h : BkW S b its rows w) (x : Ln) (r : Bool) (hr : mayI its.length x = r) :
    Calls Try.prog 30 #[.pointer (some ⟨b, 0, none⟩), x.val] w fun e w' => e = .returned (.bool r) ∧ Below w.heap.size w w' := by
  unfold mayI at hr
  obtain ⟨i, u, c, f, l⟩ := x
  dsimp only [Ln.val] at hr ⊢
  have hw := fun w' (hb : Below w.heap.size w w') => h.later hb
  cases hin : inI its.length i with
  | false =>
    rw [hin, Bool.false_and] at hr
    subst hr
    have HH := Lib.hid (fun w' hb => has_any (hw w' hb) i false hin)
    clear h hw hin
    go_enter Try.func30, Try.ntmps30
    go_wp2_with fail
    refine (HH.out _ (alloc1 w _)).mono ?_
    rintro e w1 ⟨rfl, rfl⟩
    go_wp2_with fail
    go_ret
    exact ⟨rfl, alloc1 w _⟩
  | true =>
    rw [hin, Bool.true_and] at hr
    have HH := Lib.hid (fun w' hb => has_any (hw w' hb) i true hin)
    clear h hw hin
    by_cases c0 : u < 1
    · have hb1 : false = r := by rw [← hr]; rw [decide_eq_false (show ¬ 1 ≤ u by omega)]; rfl
      subst hb1
      clear hr
      go_enter Try.func30, Try.ntmps30
      go_wp2_with fail
      refine (HH.out _ (alloc1 w _)).mono ?_
      rintro e w1 ⟨rfl, hw⟩
      subst hw
      go_wp2_with fail
      go_ret
      exact ⟨rfl, alloc1 w _⟩
    have d0 : 1 ≤ u := by omega
    by_cases c1 : c < 0
    · have hb1 : false = r := by rw [← hr]; rw [decide_eq_true d0, Bool.true_and]; rw [decide_eq_false (show ¬ 0 ≤ c by omega)]; rfl
      subst hb1
      clear hr
      go_enter Try.func30, Try.ntmps30
      go_wp2_with fail
      refine (HH.out _ (alloc1 w _)).mono ?_
      rintro e w1 ⟨rfl, hw⟩
      subst hw
      go_wp2_with fail
      go_ret
      exact ⟨rfl, alloc1 w _⟩
    have d1 : 0 ≤ c := by omega
    by_cases c2 : f < 1
    · have hb1 : false = r := by rw [← hr]; rw [decide_eq_true d0, Bool.true_and, decide_eq_true d1, Bool.true_and]; rw [decide_eq_false (show ¬ 1 ≤ f by omega)]; rfl
      subst hb1
      clear hr
      go_enter Try.func30, Try.ntmps30
      go_wp2_with fail
      refine (HH.out _ (alloc1 w _)).mono ?_
      rintro e w1 ⟨rfl, hw⟩
      subst hw
      go_wp2_with fail
      go_ret
      exact ⟨rfl, alloc1 w _⟩
    have d2 : 1 ≤ f := by omega
    by_cases c3 : l < f
    · have hb1 : false = r := by rw [← hr]; rw [decide_eq_true d0, Bool.true_and, decide_eq_true d1, Bool.true_and, decide_eq_true d2, Bool.true_and]; rw [decide_eq_false (show ¬ f ≤ l by omega)]; rfl
      subst hb1
      clear hr
      go_enter Try.func30, Try.ntmps30
      go_wp2_with fail
      refine (HH.out _ (alloc1 w _)).mono ?_
      rintro e w1 ⟨rfl, hw⟩
      subst hw
      go_wp2_with fail
      go_ret
      exact ⟨rfl, alloc1 w _⟩
    have d3 : f ≤ l := by omega
    by_cases c4 : 1000000 < l
    · have hb1 : false = r := by rw [← hr]; rw [decide_eq_true d0, Bool.true_and, decide_eq_true d1, Bool.true_and, decide_eq_true d2, Bool.true_and, decide_eq_true d3, Bool.true_and]; rw [decide_eq_false (show ¬ l ≤ 1000000 by omega)]
      subst hb1
      clear hr
      have e4 : decide (l ≤ 1000000) = false := by simp; omega
      go_enter Try.func30, Try.ntmps30
      go_wp2_with fail
      refine (HH.out _ (alloc1 w _)).mono ?_
      rintro e w1 ⟨rfl, hw⟩
      subst hw
      go_wp2_with fail
      go_ret
      exact ⟨rfl, alloc1 w _⟩
    have d4 : l ≤ 1000000 := by omega
    have hb1 : true = r := by rw [← hr, decide_eq_true d0, Bool.true_and, decide_eq_true d1, Bool.true_and, decide_eq_true d2, Bool.true_and, decide_eq_true d3, Bool.true_and, decide_eq_true d4]
    subst hb1
    clear hr
    have e4 : decide (l ≤ 1000000) = true := by simpa using d4
    clear d4
    go_enter Try.func30, Try.ntmps30
    go_wp2_with fail
    refine (HH.out _ (alloc1 w _)).mono ?_
    rintro e w1 ⟨rfl, hw⟩
    subst hw
    go_wp2_with fail
    go_ret
    exact ⟨rfl, alloc1 w _⟩
def itN (its : List It) (item : Int) : It := if inI its.length item = true then itAt its item.toNat else It.zero
theorem item_any {S : Nat → Prop} {b : Nat} {its : List It} {rows : List PRow} {w : World} (h : BkW S b its rows w) (hl : its.length ≤ 1000000) (item : Int) (x : It) (r : Bool) (hx : itN its item = x ∧ inI its.length item = r) :
    Calls Try.prog 25 #[.pointer (some ⟨b, 0, none⟩), .int .i64 item] w fun e w' => e = .returned (.tuple #[x.val, .bool r]) ∧ Below w.heap.size w w' := by
  obtain ⟨hx, hr⟩ := hx
  unfold itN at hx
  rw [hr] at hx
  have h2 := h.later (alloc1 w (.cells #[.int .i64 0, .int .i64 0, .int .i64 0, .int .i64 0] 50))
  have HH := Lib.hid (has_any h2 item r hr)
  cases r with
  | false =>
    rw [if_neg (by simp)] at hx
    subst hx
    clear h h2 hr
    go_enter Try.func25, Try.ntmps25
    go_wp2_with fail
    refine HH.out.mono ?_
    rintro e w1 ⟨rfl, hw⟩
    subst hw
    go_wp2_with fail
    have k0 := Blk.new w 50 #[.int .i64 0, .int .i64 0, .int .i64 0, .int .i64 0]
    have z0 := k0.cell 0
    have z1 := k0.cell 1
    have z2 := k0.cell 2
    have z3 := k0.cell 3
    simp only [List.getElem?_toArray] at z0 z1 z2 z3
    refine bodyPost_ret (v := .tuple #[It.zero.val, .bool false]) (by simp [results, Try.results25, go_sem, It.val, It.zero]) rfl ?_
    exact ⟨rfl, alloc1 w _⟩
  | true =>
    rw [if_pos rfl] at hx
    unfold inI at hr
    simp only [Bool.and_eq_true, decide_eq_true_eq] at hr
    obtain ⟨i, rfl⟩ := Int.eq_ofNat_of_zero_le hr.1
    have hi : i < its.length := by omega
    rw [Int.toNat_natCast] at hx
    obtain ⟨I, cI, v, vals, hb⟩ := h2
    obtain ⟨ad, rfl, c1, c2, c3, c4⟩ := i_cells hb.items.row hi
    rw [hx] at c1 c2 c3 c4
    have c0 := hb.c0
    generalize its.length = n at *
    obtain ⟨t1, t2, t3, t4⟩ := x
    dsimp only at c1 c2 c3 c4
    have g0 : (0 : Int) ≤ (i : Int) := Int.natCast_nonneg _
    have g1 : (i : Int) < (n : Int) := by omega
    clear h hb hr hx
    go_enter Try.func25, Try.ntmps25
    go_wp2_with fail
    refine HH.out.mono ?_
    rintro e w1 ⟨rfl, hw⟩
    subst hw
    go_wp2_with fail
    refine bodyPost_ret (v := .tuple #[It.val ⟨t1, t2, t3, t4⟩, .bool true]) (by simp [results, Try.results25, go_sem, It.val]) rfl ?_
    exact ⟨rfl, alloc1 w _⟩
end Go.Proofs.Ytbdhbongaikphaa.BK
