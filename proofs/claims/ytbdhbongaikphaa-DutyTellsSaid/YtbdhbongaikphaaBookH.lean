/- The walks of a book's Check and Alone. -/
import Derived.Test.YtbdhbongaikphaaBookG
import Derived.Test.YtbdhbongaikphaaPartIs
namespace Go.Proofs.Ytbdhbongaikphaa.BK
open Go.RowKit Go.Proofs.Ytbdhbongaikphaa.Cents
set_option linter.unusedVariables false
set_option linter.unusedSimpArgs false

def checkE (n : Nat) (l : List Ln) : Int := if 12 < l.length then 4 else if l.all (mayI n) = false then 1 else if l.length = 0 then 1 else 0
theorem take_all {n : Nat} {xs : List Ln} {j : Nat} (h : j < xs.length) : (xs.take (j + 1)).all (mayI n) = ((xs.take j).all (mayI n) && mayI n (lnAt xs j)) := by
  rw [List.take_succ_eq_append_getElem h, List.all_append]
  simp [lnAt, List.getD_eq_getElem?_getD, h]
theorem lnAt_mem {xs : List Ln} {j : Nat} (h : j < xs.length) : lnAt xs j ∈ xs := by
  unfold lnAt
  rw [List.getD_eq_getElem?_getD, List.getElem?_eq_getElem h]
  exact List.getElem_mem h
set_option maxHeartbeats 1000000 in
set_option maxRecDepth 100000 in
theorem check_any {S : Nat → Prop} {b : Nat} {its : List It} {rows : List PRow} {w : World} (h : BkW S b its rows w) (A : Option Addr) (l : List Ln) (c : Nat) (hr : Row w 0 A (lcells l)) (hl : l.length ≤ 1000000) (x : Int) (hx : checkE its.length l = x) :
    Calls Try.prog 23 #[.pointer (some ⟨b, 0, none⟩), .slice A l.length c] w fun e w' => e = .returned (.int .i64 x) ∧ Below w.heap.size w w' := by
  unfold checkE at hx
  have HM := Lib.hid (fun w' (hb : Below w.heap.size w w') y r hr => may_any (h.later hb) y r hr)
  have HR := Lib.hid hr
  obtain ⟨k, hk⟩ : ∃ k, its.length = k := ⟨_, rfl⟩
  rw [hk] at hx HM
  obtain ⟨n, hn⟩ : ∃ n, l.length = n := ⟨_, rfl⟩
  have HN := Lib.hid hn
  rw [hn] at hx hl ⊢
  have HX := Lib.hid hx
  clear h hr hk hn hx
  by_cases h12 : 12 < n
  · have hx := HX.out
    rw [if_pos h12] at hx
    subst hx
    have h2 : decide ((12 : Int) < (n : Int)) = true := by simp; omega
    go_enter Try.func23, Try.ntmps23
    go_wp2_with fail
    go_ret
    exact ⟨rfl, Below.refl _ _⟩
  have h2 : decide ((12 : Int) < (n : Int)) = false := by simp; omega
  go_enter Try.func23, Try.ntmps23
  go_wp2_with fail
  go_loopw [12] (fun v wr => ∃ (j : Nat), v = .int .i64 (j : Int) ∧ j ≤ n ∧ (l.take j).all (mayI k) = true ∧ Below w.heap.size w wr) (fun v _ => n - (intOf v).toNat)
  case atStart => exact ⟨0, rfl, by omega, by simp, Below.refl _ _⟩
  case round =>
    obtain ⟨j, rfl, hj, hall, hbe⟩ := hrel
    have HBE := Lib.hid hbe
    have g0 : (0 : Int) ≤ (j : Int) := Int.natCast_nonneg _
    by_cases hjn : j < n
    · have g1 : (j : Int) < (n : Int) := by omega
      obtain ⟨ad, rfl, c0, c1, c2, c3, c4⟩ := l_cells (HR.out.below hbe) (j := j) (by rw [HN.out]; exact hjn)
      have hta := take_all (n := k) (xs := l) (j := j) (by rw [HN.out]; exact hjn)
      have hmem := lnAt_mem (xs := l) (j := j) (by rw [HN.out]; exact hjn)
      obtain ⟨m, hm⟩ : ∃ m, lnAt l j = m := ⟨_, rfl⟩
      rw [hm] at c0 c1 c2 c3 c4 hta hmem
      rw [hall, Bool.true_and] at hta
      have HT := Lib.hid hta
      have HMEM := Lib.hid hmem
      obtain ⟨t1, t2, t3, t4, t5⟩ := m
      dsimp only at c0 c1 c2 c3 c4
      clear hall hbe hta hmem hm
      cases hmy : mayI k ⟨t1, t2, t3, t4, t5⟩ with
      | false =>
        have HMY := Lib.hid hmy
        have hx := HX.out
        have hf : l.all (mayI k) = false := by
          rw [List.all_eq_false]
          exact ⟨_, HMEM.out, by rw [hmy]; simp⟩
        rw [if_neg h12, if_pos hf] at hx
        subst hx
        clear hmy hf
        go_wp2_with fail
        refine (HM.out _ (HBE.out.trans ((alloc1 wr _).mono HBE.out.size)) ⟨t1, t2, t3, t4, t5⟩ false HMY.out).mono ?_
        rintro e w2 ⟨rfl, hb2⟩
        have HB2 := Lib.hid ((HBE.out.trans ((alloc1 wr (.cells #[.int .i64 t1, .int .i64 t2, .int .i64 t3, .int .i64 t4, .int .i64 t5] 45)).mono HBE.out.size)).trans (hb2.mono (Nat.le_trans HBE.out.size (by simp))))
        clear hb2
        go_wp2_with fail
        go_ret
        exact ⟨rfl, HB2.out⟩
      | true =>
        have HMY := Lib.hid hmy
        clear hmy
        go_wp2_with fail
        refine (HM.out _ (HBE.out.trans ((alloc1 wr _).mono HBE.out.size)) ⟨t1, t2, t3, t4, t5⟩ true HMY.out).mono ?_
        rintro e w2 ⟨rfl, hb2⟩
        have HB2 := Lib.hid ((HBE.out.trans ((alloc1 wr (.cells #[.int .i64 t1, .int .i64 t2, .int .i64 t3, .int .i64 t4, .int .i64 t5] 45)).mono HBE.out.size)).trans (hb2.mono (Nat.le_trans HBE.out.size (by simp))))
        clear hb2
        go_wp2_with fail
        go_roundw
        case rel => exact ⟨j + 1, by go_num, by omega, by rw [HT.out]; exact HMY.out, HB2.out⟩
        case measure => simp only [intOf]; omega
    · obtain rfl : j = n := by omega
      have hx := HX.out
      rw [List.take_of_length_le (by rw [HN.out]; omega)] at hall
      rw [if_neg h12, if_neg (by rw [hall]; simp)] at hx
      clear hall hbe
      by_cases hj0 : j = 0
      · rw [if_pos hj0] at hx
        subst hx
        subst hj0
        go_wp2_with fail
        go_ret
        exact ⟨rfl, HBE.out⟩
      · rw [if_neg hj0] at hx
        subst hx
        have f1 : ((j : Int) == 0) = false := by simp; omega
        go_wp2_with fail
        go_ret
        exact ⟨rfl, HBE.out⟩

def aloneE (its : List It) (rows : List PRow) (x : Ln) (day : Int) : Int := if mayI its.length x = false ∨ day < 0 then 1 else partE (priceN its rows x.item day) x.units 1
def aloneN (its : List It) (rows : List PRow) (x : Ln) (day : Int) : Int := if mayI its.length x = false ∨ day < 0 then 0 else partN (priceN its rows x.item day) x.units 1
theorem price_I {its : List It} {rows : List PRow} (hk : BkOk its rows) (item day : Int) : I64 (priceN its rows item day) := by
  unfold priceN
  split
  · rename_i h
    unfold priceE at h
    split at h
    · rename_i hin
      unfold inI at hin
      simp only [Bool.and_eq_true, decide_eq_true_eq] at hin
      split at h
      · omega
      · have hro := hk.row item.toNat (by omega)
        obtain ⟨p, hp, e⟩ := price_tells hro.asc (first_le hro (show 0 ≤ day by omega))
        rw [e]
        exact hro.i64 p hp.mem
    · omega
  · unfold I64; omega
set_option maxRecDepth 100000 in
theorem alone_any {S : Nat → Prop} {b : Nat} {its : List It} {rows : List PRow} {w : World} (h : BkW S b its rows w) (hk : BkOk its rows) (x : Ln) (hu : I64 x.units) (day : Int) (p q : Int) (hp : aloneN its rows x day = p ∧ aloneE its rows x day = q) :
    Calls Try.prog 14 #[.pointer (some ⟨b, 0, none⟩), x.val, .int .i64 day] w fun e w' => e = .returned (.tuple #[.int .i64 p, .int .i64 q]) ∧ Below w.heap.size w w' := by
  obtain ⟨hp, hq⟩ := hp
  unfold aloneN at hp
  unfold aloneE at hq
  have hw := fun w' (hb : Below w.heap.size w w') => h.later hb
  obtain ⟨t1, t2, t3, t4, t5⟩ := x
  dsimp only [Ln.val] at hp hq hu ⊢
  cases hm : mayI its.length ⟨t1, t2, t3, t4, t5⟩ with
  | false =>
    rw [if_pos (.inl hm)] at hp hq
    subst hp
    subst hq
    have HM := Lib.hid (fun w' hb => may_any (hw w' hb) ⟨t1, t2, t3, t4, t5⟩ false hm)
    clear h hk hw hu hm
    go_enter Try.func14, Try.ntmps14
    go_wp2_with fail
    refine (HM.out _ (alloc1 w _)).mono ?_
    rintro e w1 ⟨rfl, hb⟩
    have HB := Lib.hid ((alloc1 w (.cells #[.int .i64 t1, .int .i64 t2, .int .i64 t3, .int .i64 t4, .int .i64 t5] 45)).trans (hb.mono (by simp)))
    clear hb
    go_wp2_with fail
    go_ret2
    exact ⟨rfl, HB.out⟩
  | true =>
    have HM := Lib.hid (fun w' hb => may_any (hw w' hb) ⟨t1, t2, t3, t4, t5⟩ true hm)
    by_cases hd : day < 0
    · rw [if_pos (.inr hd)] at hp hq
      subst hp
      subst hq
      have f1 : decide (day < 0) = true := by simp; exact hd
      clear h hk hw hu hm
      go_enter Try.func14, Try.ntmps14
      go_wp2_with fail
      refine (HM.out _ (alloc1 w _)).mono ?_
      rintro e w1 ⟨rfl, hb⟩
      have HB := Lib.hid ((alloc1 w (.cells #[.int .i64 t1, .int .i64 t2, .int .i64 t3, .int .i64 t4, .int .i64 t5] 45)).trans (hb.mono (by simp)))
      clear hb
      go_wp2_with fail
      go_ret2
      exact ⟨rfl, HB.out⟩
    · have hc : ¬ (mayI its.length ⟨t1, t2, t3, t4, t5⟩ = false ∨ day < 0) := fun c => by
        rcases c with c | c
        · rw [hm] at c; cases c
        · exact hd c
      rw [if_neg hc] at hp hq
      have f1 : decide (day < 0) = false := by simp; omega
      have hpi := price_I hk t1 day
      have HPR := Lib.hid (fun w' hb y hy => price_any (hw w' hb) hk t1 day (priceN its rows t1 day) y ⟨rfl, hy⟩)
      generalize priceN its rows t1 day = z at *
      have HPA := Lib.hid (fun w' => part_is z t2 1 p q w' hpi hu ⟨by decide, by decide⟩ ⟨hp, hq⟩)
      have hbk := Blk.new w 45 #[.int .i64 t1, .int .i64 t2, .int .i64 t3, .int .i64 t4, .int .i64 t5]
      have HBK := Lib.hid hbk
      obtain ⟨y, hy⟩ : ∃ y, priceE its.length t1 day = y := ⟨_, rfl⟩
      have HY := Lib.hid hy
      clear h hk hw hu hm hp hq hpi hc hbk hy
      go_enter Try.func14, Try.ntmps14
      go_wp2_with fail
      refine (HM.out _ (alloc1 w _)).mono ?_
      rintro e w1 ⟨rfl, hb⟩
      have HB := Lib.hid ((alloc1 w (.cells #[.int .i64 t1, .int .i64 t2, .int .i64 t3, .int .i64 t4, .int .i64 t5] 45)).trans (hb.mono (by simp)))
      have HBK := Lib.hid (HBK.out.below hb (by simp))
      have k0 : w1.cell? ⟨w.heap.size, 0, none⟩ = some (.int .i64 t1) := HBK.out.cell 0
      clear hb
      go_wp2_with fail
      refine (HPR.out _ HB.out y HY.out).mono ?_
      rintro e w2 ⟨rfl, hb⟩
      have HB2 := Lib.hid (HB.out.trans (hb.mono HB.out.size))
      have HBK := Lib.hid (HBK.out.below hb HBK.out.lt)
      have k1 : w2.cell? ⟨w.heap.size, 1, none⟩ = some (.int .i64 t2) := HBK.out.cell 1
      clear hb k0
      go_wp2_with fail
      refine (HPA.out _).mono ?_
      rintro e w3 ⟨rfl, hq⟩
      have HB3 := Lib.hid (HB2.out.trans ((Quiet.below hq).mono HB2.out.size))
      clear hq
      go_wp2_with fail
      go_ret2
      exact ⟨rfl, HB3.out⟩
end Go.Proofs.Ytbdhbongaikphaa.BK
