/- The walks of the reference's Check and Alone. -/
import Derived.Test.YtbdhbongaikphaaBookR
import Derived.Test.YtbdhbongaikphaaBookH
namespace Go.Proofs.Ytbdhbongaikphaa.BK
open Go.RowKit Go.Proofs.Ytbdhbongaikphaa.Cents Go.Proofs.Ytbdhbongaikphaa.Exact
set_option linter.unusedVariables false
set_option linter.unusedSimpArgs false

set_option maxHeartbeats 1000000 in
set_option maxRecDepth 100000 in
theorem rcheck_any {S : Nat → Prop} {b : Nat} {its : List It} {L : List Pz} {w : World} (h : RbW S b its L w) (A : Option Addr) (l : List Ln) (c : Nat) (hr : Row w 0 A (lcells l)) (hl : l.length ≤ 1000000) (x : Int) (hx : checkE its.length l = x) :
    Calls Try.prog 27 #[.pointer (some ⟨b, 0, none⟩), .slice A l.length c] w fun e w' => e = .returned (.int .i64 x) ∧ Below w.heap.size w w' := by
  unfold checkE at hx
  have HM := Lib.hid (fun w' (hb : Below w.heap.size w w') y r hr => rmay_any (h.later hb) y r hr)
  have HR := Lib.hid hr
  obtain ⟨k, hk⟩ : ∃ k, its.length = k := ⟨_, rfl⟩
  rw [hk] at hx HM
  obtain ⟨n, hn⟩ : ∃ n, l.length = n := ⟨_, rfl⟩
  have HN := Lib.hid hn
  rw [hn] at hx hl ⊢
  have HX := Lib.hid hx
  clear h hr hk hx
  by_cases h12 : 12 < n
  · have hx := HX.out
    rw [if_pos h12] at hx
    subst hx
    have h2 : decide ((12 : Int) < (n : Int)) = true := by simp; omega
    clear hn
    go_enter Try.func27, Try.ntmps27
    go_wp2_with fail
    go_ret
    exact ⟨rfl, Below.refl _ _⟩
  have h2 : decide ((12 : Int) < (n : Int)) = false := by simp; omega
  by_cases h0 : n = 0
  · have hx := HX.out
    have hnil : l = [] := List.eq_nil_of_length_eq_zero (by rw [hn]; exact h0)
    subst h0
    rw [hnil] at hx
    simp at hx
    subst hx
    clear hn hnil HN HX
    go_enter Try.func27, Try.ntmps27
    go_wp2_with fail
    go_ret
    exact ⟨rfl, Below.refl _ _⟩
  have h3 : ¬ (n : Int) < 1 := by omega
  clear hn
  go_enter Try.func27, Try.ntmps27
  go_wp2_with fail
  go_loopw [5] (fun v wr => ∃ (j : Nat), v = .int .i64 (j : Int) ∧ j ≤ n ∧ (l.take j).all (mayI k) = true ∧ Below w.heap.size w wr) (fun v _ => n - (intOf v).toNat)
  case atStart => exact ⟨0, rfl, by omega, by simp, Below.refl _ _⟩
  case round =>
    obtain ⟨j, rfl, hj, hall, hbe⟩ := hrel
    have HBE := Lib.hid hbe
    have g0 : (0 : Int) ≤ (j : Int) := Int.natCast_nonneg _
    by_cases hjn : j < n
    · have g1 : (j : Int) < (n : Int) := by omega
      obtain ⟨ad, rfl, c0, c1, c2, c3, c4⟩ := l_cells (HR.out.below hbe) (j := j) (by rw [HN.out]; exact hjn)
      have hta := take_all (n := k) (xs := l) (j := j) (by rw [HN.out]; exact hjn)
      have hmem := lnAt_mem (xs := l) (j := j) (by rw [HN.out]; exact hjn)
      obtain ⟨m, hm⟩ : ∃ m, lnAt l j = m := ⟨_, rfl⟩
      rw [hm] at c0 c1 c2 c3 c4 hta hmem
      rw [hall, Bool.true_and] at hta
      have HT := Lib.hid hta
      have HMEM := Lib.hid hmem
      obtain ⟨t1, t2, t3, t4, t5⟩ := m
      dsimp only at c0 c1 c2 c3 c4
      clear hall hbe hta hmem hm
      cases hmy : mayI k ⟨t1, t2, t3, t4, t5⟩ with
      | false =>
        have HMY := Lib.hid hmy
        have hx := HX.out
        have hf : l.all (mayI k) = false := by
          rw [List.all_eq_false]
          exact ⟨_, HMEM.out, by rw [hmy]; simp⟩
        rw [if_neg h12, if_pos hf] at hx
        subst hx
        clear hmy hf
        go_wp2_with fail
        refine (HM.out _ HBE.out ⟨t1, t2, t3, t4, t5⟩ false HMY.out).mono ?_
        rintro e w2 ⟨rfl, hb2⟩
        have HB2 := Lib.hid (HBE.out.trans (hb2.mono HBE.out.size))
        clear hb2
        go_wp2_with fail
        go_ret
        exact ⟨rfl, HB2.out⟩
      | true =>
        have HMY := Lib.hid hmy
        clear hmy
        go_wp2_with fail
        refine (HM.out _ HBE.out ⟨t1, t2, t3, t4, t5⟩ true HMY.out).mono ?_
        rintro e w2 ⟨rfl, hb2⟩
        have HB2 := Lib.hid (HBE.out.trans (hb2.mono HBE.out.size))
        clear hb2
        go_wp2_with fail
        go_roundw
        case rel => exact ⟨j + 1, by go_num, by omega, by rw [HT.out]; exact HMY.out, HB2.out⟩
        case measure => simp only [intOf]; omega
    · obtain rfl : j = n := by omega
      have hx := HX.out
      rw [List.take_of_length_le (by rw [HN.out]; omega)] at hall
      rw [if_neg h12, if_neg (by rw [hall]; simp), if_neg h0] at hx
      subst hx
      clear hall hbe
      go_wp2_with fail
      go_ret
      exact ⟨rfl, HBE.out⟩
theorem alone_fit {its : List It} {R : List PRow} {x : Ln} {day : Int} (h : mayI its.length x = true) (hd : ¬ day < 0) : fitN (priceN its R x.item day * x.units) = aloneN its R x day ∧ fitE (priceN its R x.item day * x.units) = aloneE its R x day := by
  have hu := (may_iff.1 h).2.2.1
  unfold aloneN aloneE partN partE fitN fitE
  have hc : ¬ (mayI its.length x = false ∨ day < 0) := fun c => c.elim (fun e => by rw [h] at e; cases e) hd
  have h1 : ¬ ((1 : Int) < 1 ∨ x.units < 0) := by omega
  simp only [if_neg hc, if_neg h1, Int.ediv_one]
  exact ⟨trivial, trivial⟩
set_option maxHeartbeats 2000000 in
set_option maxRecDepth 100000 in
theorem ralone_any {S : Nat → Prop} {b : Nat} {its : List It} {R : List PRow} {L : List Pz} {w : World} (h : RbW S b its L w) (hm : Match its R L) (hk : BkOk its R) (hl : L.length ≤ 1000) (x : Ln) (hu : I64 x.units) (day : Int) (p q : Int) (hp : aloneN its R x day = p ∧ aloneE its R x day = q) :
    Calls Try.prog 29 #[.pointer (some ⟨b, 0, none⟩), x.val, .int .i64 day] w fun e w' => e = .returned (.tuple #[.int .i64 p, .int .i64 q]) ∧ Below w.heap.size w w' := by
  obtain ⟨hp, hq⟩ := hp
  have hw := fun w' (hb : Below w.heap.size w w') => h.later hb
  have hbk := Blk.new w 45 #[.int .i64 x.item, .int .i64 x.units, .int .i64 x.charge, .int .i64 x.first, .int .i64 x.last]
  cases hmy : mayI its.length x with
  | false =>
    unfold aloneN at hp
    unfold aloneE at hq
    rw [if_pos (.inl hmy)] at hp hq
    subst hp
    subst hq
    have HM := Lib.hid (fun w' hb => rmay_any (hw w' hb) x false hmy)
    obtain ⟨t1, t2, t3, t4, t5⟩ := x
    dsimp only [Ln.val] at HM ⊢
    clear h hk hw hu hm hmy hbk
    go_enter Try.func29, Try.ntmps29
    go_wp2_with fail
    refine (HM.out _ (alloc1 w _)).mono ?_
    rintro e w1 ⟨rfl, hb⟩
    have HB := Lib.hid ((alloc1 w (.cells #[.int .i64 t1, .int .i64 t2, .int .i64 t3, .int .i64 t4, .int .i64 t5] 45)).trans (hb.mono (by simp)))
    clear hb
    go_wp2_with fail
    go_ret2
    exact ⟨rfl, HB.out⟩
  | true =>
    have HM := Lib.hid (fun w' hb => rmay_any (hw w' hb) x true hmy)
    by_cases hd : day < 0
    · unfold aloneN at hp
      unfold aloneE at hq
      rw [if_pos (.inr hd)] at hp hq
      subst hp
      subst hq
      have f1 : decide (day < 0) = true := by simp; exact hd
      obtain ⟨t1, t2, t3, t4, t5⟩ := x
      dsimp only [Ln.val] at HM ⊢
      clear h hk hw hu hm hmy hbk
      go_enter Try.func29, Try.ntmps29
      go_wp2_with fail
      refine (HM.out _ (alloc1 w _)).mono ?_
      rintro e w1 ⟨rfl, hb⟩
      have HB := Lib.hid ((alloc1 w (.cells #[.int .i64 t1, .int .i64 t2, .int .i64 t3, .int .i64 t4, .int .i64 t5] 45)).trans (hb.mono (by simp)))
      clear hb
      go_wp2_with fail
      go_ret2
      exact ⟨rfl, HB.out⟩
    · have hfit := alone_fit (R := R) hmy hd
      rw [hp, hq] at hfit
      have f1 : decide (day < 0) = false := by simp; omega
      have hpi := price_I hk x.item day
      have HPR := Lib.hid (fun w' hb y hy => rprice_any (hw w' hb) hl hk.len x.item day (priceN its R x.item day) y ⟨hm.price x.item day, hy⟩)
      obtain ⟨y, hy⟩ : ∃ y, priceE its.length x.item day = y := ⟨_, rfl⟩
      have HY := Lib.hid hy
      obtain ⟨t1, t2, t3, t4, t5⟩ := x
      dsimp only [Ln.val] at *
      generalize priceN its R t1 day = z at *
      have HFIT := Lib.hid hfit
      have HPI := Lib.hid hpi
      have HUI := Lib.hid hu
      have HBK := Lib.hid hbk
      clear h hk hw hu hm hp hq hpi hbk hy hfit hmy
      go_enter Try.func29, Try.ntmps29
      go_wp2_with fail
      refine (HM.out _ (alloc1 w _)).mono ?_
      rintro e w1 ⟨rfl, hb⟩
      have HB := Lib.hid ((alloc1 w (.cells #[.int .i64 t1, .int .i64 t2, .int .i64 t3, .int .i64 t4, .int .i64 t5] 45)).trans (hb.mono (by simp)))
      have HBK := Lib.hid (HBK.out.below hb (by simp))
      have k0 : w1.cell? ⟨w.heap.size, 0, none⟩ = some (.int .i64 t1) := HBK.out.cell 0
      clear hb
      go_wp2_with fail
      refine (HPR.out _ HB.out y HY.out).mono ?_
      rintro e w2 ⟨rfl, hb⟩
      have HB2 := Lib.hid (HB.out.trans (hb.mono HB.out.size))
      have HBK := Lib.hid (HBK.out.below hb HBK.out.lt)
      have k1 : w2.cell? ⟨w.heap.size, 1, none⟩ = some (.int .i64 t2) := HBK.out.cell 1
      clear hb k0
      go_wp2_with fail
      have HL := Lib.hid (Later.refl w2)
      go_region_held3 (fun W => W.cell? ⟨w.heap.size, 1, none⟩ = some (.int .i64 t2))
        (first | exact cz | exact k1)
        (first
          | (go_at_call_of 21 z; refine (of_any (fun _ => True) z _ (fun _ _ => trivial) HPI.out).mono ?_; rintro e w3 ⟨v3, rfl, x3, b3⟩; have HL3 := Lib.hid ((Later.refl w2).drew.trans b3); have X3 := Lib.hid x3; clear x3 b3; have cz := HL3.out.cell k1)
          | (go_at_call_of 21 t2; refine (of_any (fun _ => True) t2 _ (fun _ _ => trivial) HUI.out).mono ?_; rintro e w4 ⟨v4, rfl, x4, b4⟩; have HL4 := Lib.hid (HL3.out.trans b4); have X3b := Lib.hid (X3.out.below b4); have X4 := Lib.hid x4; clear x4 b4; have cz := HL4.out.cell k1)
          | (go_at_call 42; refine (by_any (fun _ => True) _ _ z t2 7 _ (fun _ _ => trivial) X3b.out X4.out (by decide)).mono ?_; rintro e w5 ⟨v5, rfl, x5, b5⟩; have HL5 := Lib.hid (HL4.out.trans b5); have X5 := Lib.hid x5; clear x5 b5; have cz := HL5.out.cell k1)
          | (go_at_call 22; refine (fit_was _ (z * t2) 16 _ X5.out (by decide) (by decide) p q HFIT.out).mono ?_; rintro e w6 ⟨rfl, b6⟩; have HL6 := Lib.hid (HL5.out.trans b6); clear b6; have cz := HL6.out.cell k1))
      all_goals
        go_wp2_with fail
        go_ret2
        exact ⟨rfl, HB2.out.trans (HL6.out.mono HB2.out.size)⟩
end Go.Proofs.Ytbdhbongaikphaa.BK
