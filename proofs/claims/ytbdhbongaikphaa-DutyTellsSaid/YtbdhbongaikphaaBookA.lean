/- The walks of what a book leans on: how days compare, where a day stands in a row. -/
import Derived.Test.YtbdhbongaikphaaBookMath2
import Derived.Test.YtbdhbongaikphaaRowF
import Derived.Test.YtbdhbongaikphaaSum
namespace Go.Proofs.Ytbdhbongaikphaa.BK
open Go.RowKit Go.Proofs.Ytbdhbongaikphaa.Cents
set_option linter.unusedVariables false
set_option linter.unusedSimpArgs false

theorem alloc1 (w : World) (o : Obj) : Below w.heap.size w (w.alloc o) := (Below.refl _ _).alloc (Nat.le_refl _) _
def cmpI (a b : Int) : Int := if a < b then -1 else if b < a then 1 else 0
theorem nan_any (a : Int) (w : World) : Calls Try.prog 51 #[.int .i64 a] w fun e w' => e = .returned (.bool false) ∧ w = w' := by
  go_enter Try.func51, Try.ntmps51
  go_wp2_with fail
  go_ret
  exact ⟨rfl, rfl⟩
theorem compare_any (a b : Int) (w : World) (x : Int) (hx : cmpI a b = x) : Calls Try.prog 49 #[.int .i64 a, .int .i64 b] w fun e w' => e = .returned (.int .i64 x) ∧ w = w' := by
  unfold cmpI at hx
  by_cases h1 : a < b
  · rw [if_pos h1] at hx
    subst hx
    go_enter Try.func49, Try.ntmps49
    go_wp2_with fail
    refine (nan_any a _).mono ?_
    rintro e w1 ⟨rfl, rfl⟩
    go_wp2_with fail
    refine (nan_any b _).mono ?_
    rintro e w1 ⟨rfl, rfl⟩
    go_wp2_with fail
    go_ret
    exact ⟨rfl, rfl⟩
  · by_cases h2 : b < a
    · rw [if_neg h1, if_pos h2] at hx
      subst hx
      go_enter Try.func49, Try.ntmps49
      go_wp2_with fail
      refine (nan_any a _).mono ?_
      rintro e w1 ⟨rfl, rfl⟩
      go_wp2_with fail
      refine (nan_any b _).mono ?_
      rintro e w1 ⟨rfl, rfl⟩
      go_wp2_with fail
      go_ret
      exact ⟨rfl, rfl⟩
    · rw [if_neg h1, if_neg h2] at hx
      subst hx
      go_enter Try.func49, Try.ntmps49
      go_wp2_with fail
      refine (nan_any a _).mono ?_
      rintro e w1 ⟨rfl, rfl⟩
      go_wp2_with fail
      refine (nan_any b _).mono ?_
      rintro e w1 ⟨rfl, rfl⟩
      go_wp2_with fail
      go_ret
      exact ⟨rfl, rfl⟩
theorem by_day (d n day : Int) (w : World) (x : Int) (hx : cmpI d day = x) : Calls Try.prog 48 #[.agg #[.int .i64 d, .int .i64 n], .int .i64 day] w fun e w' => e = .returned (.int .i64 x) ∧ Below w.heap.size w w' := by
  go_enter Try.func48, Try.ntmps48
  go_wp2_with fail
  refine (compare_any d day _ x hx).mono ?_
  rintro e w1 ⟨rfl, rfl⟩
  go_wp2_with fail
  go_ret
  exact ⟨rfl, alloc1 _ _⟩

def pcell (p : Int × Int) : List Value := [.int .i64 p.1, .int .i64 p.2]
def pcells (r : PRow) : List Value := r.flatMap pcell
theorem pcell_len (p : Int × Int) : (pcell p).length = 2 := rfl
theorem pcells_len (r : PRow) : (pcells r).length = r.length * 2 := flat_len pcell_len r
theorem p_cells {w : World} {A : Option Addr} {r : PRow} (hr : Row w 0 A (pcells r)) {j : Nat} (h : j < r.length) :
    ∃ ad, A = some ad ∧ w.cell? (ad.add (j * 2)) = some (.int .i64 (dayAt r j)) ∧ w.cell? ⟨(ad.add (j * 2)).block, (ad.add (j * 2)).off + 1, none⟩ = some (.int .i64 (costAt r j)) := by
  obtain ⟨ad, e, _, h0, hi⟩ := Row.elem pcell_len (by omega) hr h
  refine ⟨ad, e, h0 _ ?_, hi 1 _ (by omega) ?_⟩
  · simp [pcell, dayAt, List.getD_eq_getElem?_getD, h]
  · simp [pcell, costAt, List.getD_eq_getElem?_getD, h]
theorem cmp_neg {a b : Int} : decide (cmpI a b < 0) = decide (a < b) := by
  unfold cmpI
  split
  · simp; omega
  · split <;> simp <;> omega
theorem cmp_zero {a b : Int} : (cmpI a b == 0) = decide (a = b) := by
  unfold cmpI
  split
  · simp; omega
  · split
    · simp; omega
    · simp; omega

set_option maxHeartbeats 1000000 in
set_option maxRecDepth 100000 in
theorem search_any (A : Option Addr) (r : PRow) (c : Nat) (d : Int) (w : World) (hr : Row w 0 A (pcells r)) (ha : Asc r) (hl : r.length ≤ 1000) (p : Nat) (b : Bool) (hp : pos r d = p ∧ isAt r d = b) :
    Calls Try.prog 47 #[.slice A r.length c, .int .i64 d, .func (.func 48) #[] #[]] w fun e w' => e = .returned (.tuple #[.int .i64 (p : Int), .bool b]) ∧ Below w.heap.size w w' := by
  have HR := Lib.hid hr
  have HPI := Lib.hid (pos_iff ha d)
  have hpl : p ≤ r.length := by rw [← hp.1]; exact pos_le r d
  have HP := Lib.hid hp
  rw [hp.1] at HPI
  obtain ⟨n, hn⟩ : ∃ n, r.length = n := ⟨_, rfl⟩
  have HN := Lib.hid hn
  rw [hn] at hl hpl ⊢
  clear hr hp ha hn
  go_enter Try.func47, Try.ntmps47
  go_wp2_with fail
  go_loopw [9, 10] (fun i j wr => ∃ (a z : Nat), i = .int .i64 (a : Int) ∧ j = .int .i64 (z : Int) ∧ a ≤ p ∧ p ≤ z ∧ z ≤ n ∧ Below w.heap.size w wr) (fun i j _ => (intOf j).toNat - (intOf i).toNat)
  case atStart => exact ⟨0, n, rfl, rfl, by omega, hpl, by omega, Below.refl _ _⟩
  case round =>
    obtain ⟨a, z, rfl, rfl, h1, h2, h3, hb⟩ := hrel
    have HB := Lib.hid hb
    clear hb
    have g0 : (0 : Int) ≤ (a : Int) := Int.natCast_nonneg _
    have g1 : (0 : Int) ≤ (z : Int) := Int.natCast_nonneg _
    by_cases haz : a < z
    · have g2 : (a : Int) < (z : Int) := by omega
      obtain ⟨m, hm⟩ : ∃ m, (a + z) / 2 = m := ⟨_, rfl⟩
      have hmz : a ≤ m ∧ m < z := by omega
      obtain ⟨ad, rfl, c0, c1⟩ := p_cells (HR.out.below HB.out) (j := m) (by rw [HN.out]; omega)
      have hpi := HPI.out m (by rw [HN.out]; omega)
      obtain ⟨x, hx⟩ : ∃ x, cmpI (dayAt r m) d = x := ⟨_, rfl⟩
      have hneg : x < 0 ↔ m < p := by
        rw [← hx, ← hpi]
        have := @cmp_neg (dayAt r m) d
        simpa using this
      have HX := Lib.hid hx
      have HM := Lib.hid hm
      clear hpi hx
      by_cases hmp : m < p
      · have f1 : x < 0 := hneg.2 hmp
        clear hneg
        go_wp2_with fail
        refine (by_day _ _ _ _ x HX.out).mono ?_
        rintro e w1 ⟨rfl, hb1⟩
        have HB := Lib.hid (HB.out.trans (hb1.mono HB.out.size))
        clear hb1 c0 c1
        go_wp2_with fail
        go_roundw
        case rel => exact ⟨m + 1, z, by rw [← HM.out]; go_num, rfl, by omega, by omega, by omega, HB.out⟩
        case measure => simp only [intOf]; omega
      · have f1 : ¬ x < 0 := fun h => hmp (hneg.1 h)
        clear hneg
        go_wp2_with fail
        refine (by_day _ _ _ _ x HX.out).mono ?_
        rintro e w1 ⟨rfl, hb1⟩
        have HB := Lib.hid (HB.out.trans (hb1.mono HB.out.size))
        clear hb1 c0 c1
        go_wp2_with fail
        go_roundw
        case rel => exact ⟨a, m, rfl, by rw [← HM.out]; go_num, by omega, by omega, by omega, HB.out⟩
        case measure => simp only [intOf]; omega
    · obtain rfl : a = z := by omega
      obtain rfl : a = p := by omega
      obtain ⟨hp1, hp2⟩ := HP.out
      by_cases han : a < n
      · obtain ⟨ad, rfl, c0, c1⟩ := p_cells (HR.out.below HB.out) (j := a) (by rw [HN.out]; exact han)
        have g3 : (a : Int) < (n : Int) := by omega
        have hb2 : decide (dayAt r a = d) = b := by
          rw [← hp2]
          unfold isAt
          rw [hp1, HN.out, decide_eq_true han, Bool.true_and]
        obtain ⟨x, hx⟩ : ∃ x, cmpI (dayAt r a) d = x := ⟨_, rfl⟩
        have hz := @cmp_zero (dayAt r a) d
        rw [hx, hb2] at hz
        have HX := Lib.hid hx
        have HZ := Lib.hid hz
        clear hp1 hp2 hb2 hx hz
        go_wp2_with fail
        refine (by_day _ _ _ _ x HX.out).mono ?_
        rintro e w1 ⟨rfl, hb1⟩
        have HB := Lib.hid (HB.out.trans (hb1.mono HB.out.size))
        clear hb1 c0 c1
        go_wp2_with fail
        go_ret2
        exact ⟨by rw [HZ.out]; rfl, HB.out⟩
      · have hbf : b = false := by
          rw [← hp2]
          unfold isAt
          rw [hp1, HN.out, decide_eq_false han, Bool.false_and]
        clear hp1 hp2
        subst hbf
        have g3 : ¬ (a : Int) < (n : Int) := by omega
        go_wp2_with fail
        go_ret2
        exact ⟨rfl, HB.out⟩
end Go.Proofs.Ytbdhbongaikphaa.BK
