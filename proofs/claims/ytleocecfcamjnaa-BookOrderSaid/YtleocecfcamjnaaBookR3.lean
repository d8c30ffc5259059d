/- The walks of the reference's Price, May, Check, Alone. -/
import Derived.Test.YtleocecfcamjnaaBookR2
import Derived.Test.YtleocecfcamjnaaBy
import Derived.Test.YtleocecfcamjnaaFit
import Derived.Test.YtleocecfcamjnaaRefPart
import Derived.Deep.QuietTactic
import Derived.BigQuiet
import Derived.Deep.RegionHeld3
namespace Go.Proofs.Ytleocecfcamjnaa.BK
open Go.RowKit Go.Proofs.Ytleocecfcamjnaa.Cents Go.Proofs.Ytleocecfcamjnaa.Exact
set_option linter.unusedVariables false
set_option linter.unusedSimpArgs false

theorem below_in {w w1 w2 : World} (h : Below w.heap.size w w1) (k : Below w1.heap.size w1 w2) : Below w.heap.size w w2 := h.trans (k.mono h.size)
theorem rset_any {S : Nat → Prop} {b : Nat} {its : List It} {L : List Pz} {w : World} (h : RbW S b its L w) (hl : L.length ≤ 1000) (item day n x : Int) (M : List Pz) (hx : rsetE its.length L item day n = x ∧ rsetL its.length L item day n = M) :
    Calls Try.prog 11 #[.pointer (some ⟨b, 0, none⟩), .int .i64 item, .int .i64 day, .int .i64 n] w (RSetRet S b its M w x) := by
  obtain ⟨hx, hM⟩ := hx
  unfold rsetL at hM
  rw [hx] at hM
  unfold rsetE at hx
  have bad : ∀ y, (if inI its.length item = true then (if day < 1 ∨ 1000000 < day ∨ n < 1 then (1 : Int) else 0) else 5) = y → y ≠ 0 → x = y → Calls Try.prog 11 #[.pointer (some ⟨b, 0, none⟩), .int .i64 item, .int .i64 day, .int .i64 n] w (RSetRet S b its M w x) := fun y h1 h2 h3 => by
    subst h3
    rw [if_neg h2] at hM
    subst hM
    refine (rset_bad h item day n x h1 h2).mono ?_
    rintro e w' ⟨rfl, hb⟩
    exact ⟨rfl, S, h.later hb, Fr.later hb, fun _ h => h, fun _ h => .inl h⟩
  cases hi : inI its.length item with
  | false =>
    rw [hi, if_neg (by simp)] at hx
    exact bad 5 (by rw [hi]; simp) (by decide) hx.symm
  | true =>
    rw [hi, if_pos rfl] at hx
    by_cases hd : day < 1 ∨ 1000000 < day ∨ n < 1
    · rw [if_pos hd] at hx
      exact bad 1 (by rw [hi, if_pos rfl, if_pos hd]) (by decide) hx.symm
    · rw [if_neg hd] at hx
      exact rset_on h hl item day n x hi (by omega) (by omega) (by omega) hx M hM
theorem rprice_bad {S : Nat → Prop} {b : Nat} {its : List It} {L : List Pz} {w : World} (h : RbW S b its L w) (item day y : Int) (hy : priceE its.length item day = y) (hne : y ≠ 0) :
    Calls Try.prog 13 #[.pointer (some ⟨b, 0, none⟩), .int .i64 item, .int .i64 day] w fun e w' => e = .returned (.tuple #[.int .i64 0, .int .i64 y]) ∧ Below w.heap.size w w' := by
  obtain ⟨I, cI, A, c, h⟩ := h
  have c0 := h.c0
  clear h
  unfold priceE inI at hy
  generalize its.length = k at *
  by_cases h1 : item < 0
  · rw [decide_eq_false (show ¬ 0 ≤ item by omega), Bool.false_and, if_neg (by simp)] at hy
    subst hy
    go_enter Try.func13, Try.ntmps13
    go_wp2_with fail
    go_ret2
    exact ⟨rfl, Below.refl _ _⟩
  rw [decide_eq_true (show 0 ≤ item by omega), Bool.true_and] at hy
  by_cases h2 : item < (k : Int)
  · rw [decide_eq_true h2, if_pos rfl] at hy
    have h3 : ¬ (k : Int) ≤ item := by omega
    by_cases d1 : day < 0
    · rw [if_pos d1] at hy
      subst hy
      go_enter Try.func13, Try.ntmps13
      go_wp2_with fail
      go_ret2
      exact ⟨rfl, Below.refl _ _⟩
    · rw [if_neg d1] at hy
      exact absurd hy.symm hne
  · rw [decide_eq_false h2, if_neg (by simp)] at hy
    subst hy
    have h3 : (k : Int) ≤ item := by omega
    go_enter Try.func13, Try.ntmps13
    go_wp2_with fail
    go_ret2
    exact ⟨rfl, Below.refl _ _⟩
set_option maxHeartbeats 2000000 in
set_option maxRecDepth 100000 in
theorem rprice_ok {S : Nat → Prop} {b : Nat} {its : List It} {L : List Pz} {w : World} (h : RbW S b its L w) (hl : L.length ≤ 1000) (i : Nat) (hi : i < its.length) (hlt : its.length ≤ 40) (day x : Int) (hd : 0 ≤ day) (hx : (rfold (itAt its i).price L (i : Int) day).2 = x) :
    Calls Try.prog 13 #[.pointer (some ⟨b, 0, none⟩), .int .i64 (i : Int), .int .i64 day] w fun e w' => e = .returned (.tuple #[.int .i64 x, .int .i64 0]) ∧ Below w.heap.size w w' := by
  obtain ⟨I, cI, A, c, h⟩ := h
  have c0 := h.c0
  have c1 := h.c1
  have HK := Lib.hid h
  obtain ⟨ai, rfl, _, _, _, i3⟩ := i_cells h.items.row hi
  obtain ⟨p0, hp0⟩ : ∃ p, (itAt its i).price = p := ⟨_, rfl⟩
  rw [hp0] at hx i3
  have HX := Lib.hid hx
  obtain ⟨k, hk⟩ : ∃ k, its.length = k := ⟨_, rfl⟩
  obtain ⟨m, hm⟩ : ∃ m, L.length = m := ⟨_, rfl⟩
  rw [hk] at c0 hi hlt
  rw [hm] at c1 hl
  have HM := Lib.hid hm
  have f0 : (0 : Int) ≤ (i : Int) := Int.natCast_nonneg _
  have f1 : (i : Int) < (k : Int) := by omega
  have f2 : ¬ (k : Int) ≤ (i : Int) := by omega
  have f3 : ¬ day < 0 := by omega
  clear h hx hk hm hp0
  go_enter Try.func13, Try.ntmps13
  go_wp2_with fail
  go_loopw [8, 9, 10] (fun o s v wr => ∃ (j : Nat) (a z : Int), o = .int .i64 z ∧ s = .int .i64 a ∧ v = .int .i64 (j : Int) ∧ j ≤ m ∧ rfold p0 (L.take j) (i : Int) day = (a, z) ∧ Below w.heap.size w wr) (fun _ _ v _ => m - (intOf v).toNat)
  case atStart => exact ⟨0, 0, p0, rfl, rfl, rfl, by omega, by simp [rfold], Below.refl _ _⟩
  case round =>
    obtain ⟨j, a, z, rfl, rfl, rfl, hj, hf, hbe⟩ := hrel
    have HF := Lib.hid hf
    have HBE := Lib.hid hbe
    have HKR := Lib.hid (HK.out.later hbe)
    have c1 : wr.cell? ⟨b, 1, none⟩ = some (.slice A m c) := cell_below' hbe c1
    clear hf hbe
    have g0 : (0 : Int) ≤ (j : Int) := Int.natCast_nonneg _
    by_cases hjm : j < m
    · have g1 : (j : Int) < (m : Int) := by omega
      obtain ⟨ad, rfl, z0, z1, z2⟩ := z_cells HKR.out.l.row (j := j) (by rw [HM.out]; exact hjm)
      have hrt := rfold_take (L := L) (k := j) (by rw [HM.out]; exact hjm) p0 (i : Int) day
      obtain ⟨p, hp⟩ : ∃ p, pzAt L j = p := ⟨_, rfl⟩
      rw [hp] at z0 z1 z2 hrt
      rw [HF.out] at hrt
      obtain ⟨p1, p2, p3⟩ := p
      dsimp only at z0 z1 z2
      unfold rstep at hrt
      dsimp only at hrt
      have HBZ := Lib.hid (HBE.out.trans ((alloc1 wr (.cells #[.int .i64 p1, .int .i64 p2, .int .i64 p3] 67)).mono HBE.out.size))
      have HRT := Lib.hid hrt
      clear hp hrt
      by_cases e1 : p1 = (i : Int)
      · have e1b : (p1 == (i : Int)) = true := by simpa using e1
        by_cases e2 : p2 ≤ day
        · by_cases e3 : a < p2
          · have HR2 := Lib.hid (show rfold p0 (L.take (j + 1)) (i : Int) day = (p2, p3) by rw [HRT.out, if_pos ⟨e1, e2, e3⟩])
            subst e1
            go_wp2_with fail
            go_roundw
            case rel => exact ⟨j + 1, p2, p3, rfl, rfl, by go_num, by omega, HR2.out, HBZ.out⟩
            case measure => simp only [intOf]; omega
          · have HR2 := Lib.hid (show rfold p0 (L.take (j + 1)) (i : Int) day = (a, z) by rw [HRT.out, if_neg (fun h => e3 h.2.2)])
            subst e1
            go_wp2_with fail
            go_roundw
            case rel => exact ⟨j + 1, a, z, rfl, rfl, by go_num, by omega, HR2.out, HBZ.out⟩
            case measure => simp only [intOf]; omega
        · have HR2 := Lib.hid (show rfold p0 (L.take (j + 1)) (i : Int) day = (a, z) by rw [HRT.out, if_neg (fun h => e2 h.2.1)])
          subst e1
          go_wp2_with fail
          go_roundw
          case rel => exact ⟨j + 1, a, z, rfl, rfl, by go_num, by omega, HR2.out, HBZ.out⟩
          case measure => simp only [intOf]; omega
      · have e1b : (p1 == (i : Int)) = false := by simpa using e1
        have HR2 := Lib.hid (show rfold p0 (L.take (j + 1)) (i : Int) day = (a, z) by rw [HRT.out, if_neg (fun h => e1 h.1)])
        go_wp2_with fail
        go_roundw
        case rel => exact ⟨j + 1, a, z, rfl, rfl, by go_num, by omega, HR2.out, HBZ.out⟩
        case measure => simp only [intOf]; omega
    · obtain rfl : j = m := by omega
      have hz : z = x := by
        have h1 := HF.out
        rw [List.take_of_length_le (by rw [HM.out]; exact Nat.le_refl _)] at h1
        rw [← HX.out, h1]
      subst hz
      go_wp2_with fail
      go_ret2
      exact ⟨rfl, HBE.out⟩
theorem rprice_any {S : Nat → Prop} {b : Nat} {its : List It} {L : List Pz} {w : World} (h : RbW S b its L w) (hl : L.length ≤ 1000) (hlt : its.length ≤ 40) (item day x y : Int) (hx : rpriceN its L item day = x ∧ priceE its.length item day = y) :
    Calls Try.prog 13 #[.pointer (some ⟨b, 0, none⟩), .int .i64 item, .int .i64 day] w fun e w' => e = .returned (.tuple #[.int .i64 x, .int .i64 y]) ∧ Below w.heap.size w w' := by
  obtain ⟨hx, hy⟩ := hx
  unfold rpriceN at hx
  by_cases h0 : y = 0
  · subst h0
    rw [if_pos hy] at hx
    obtain ⟨h1, h2⟩ := priceE_in hy
    obtain ⟨i, rfl, hi⟩ := inI_nat h1
    rw [Int.toNat_natCast] at hx
    exact rprice_ok h hl i hi hlt day x h2 hx
  · rw [if_neg (by rw [hy]; exact h0)] at hx
    subst hx
    exact rprice_bad h item day y hy h0
theorem may_iff {n : Nat} {x : Ln} : mayI n x = true ↔ 0 ≤ x.item ∧ x.item < (n : Int) ∧ 1 ≤ x.units ∧ 0 ≤ x.charge ∧ 1 ≤ x.first ∧ x.first ≤ x.last ∧ x.last ≤ 1000000 := by
  unfold mayI inI
  simp only [Bool.and_eq_true, decide_eq_true_eq]
  constructor
  · rintro ⟨⟨a, b⟩, c, d, e, f, g⟩; exact ⟨a, b, c, d, e, f, g⟩
  · rintro ⟨a, b, c, d, e, f, g⟩; exact ⟨⟨a, b⟩, c, d, e, f, g⟩
set_option maxHeartbeats 2000000 in
set_option maxRecDepth 100000 in
theorem rmay_any {S : Nat → Prop} {b : Nat} {its : List It} {L : List Pz} {w : World} (h : RbW S b its L w) (x : Ln) (r : Bool) (hr : mayI its.length x = r) :
    Calls Try.prog 25 #[.pointer (some ⟨b, 0, none⟩), x.val] w fun e w' => e = .returned (.bool r) ∧ Below w.heap.size w w' := by
  obtain ⟨i, u, c, f, l⟩ := x
  dsimp only [Ln.val] at hr ⊢
  have hbz := alloc1 w (.cells #[.int .i64 i, .int .i64 u, .int .i64 c, .int .i64 f, .int .i64 l] 45)
  obtain ⟨I, cI, A, cA, h⟩ := h
  have b0 := (h.later hbz).c0
  have hbk := Blk.new w 45 #[.int .i64 i, .int .i64 u, .int .i64 c, .int .i64 f, .int .i64 l]
  have z0 : (w.alloc (.cells #[.int .i64 i, .int .i64 u, .int .i64 c, .int .i64 f, .int .i64 l] 45)).cell? ⟨w.heap.size, 0, none⟩ = some (.int .i64 i) := hbk.cell 0
  have z1 : (w.alloc (.cells #[.int .i64 i, .int .i64 u, .int .i64 c, .int .i64 f, .int .i64 l] 45)).cell? ⟨w.heap.size, 1, none⟩ = some (.int .i64 u) := hbk.cell 1
  have z2 : (w.alloc (.cells #[.int .i64 i, .int .i64 u, .int .i64 c, .int .i64 f, .int .i64 l] 45)).cell? ⟨w.heap.size, 2, none⟩ = some (.int .i64 c) := hbk.cell 2
  have z3 : (w.alloc (.cells #[.int .i64 i, .int .i64 u, .int .i64 c, .int .i64 f, .int .i64 l] 45)).cell? ⟨w.heap.size, 3, none⟩ = some (.int .i64 f) := hbk.cell 3
  have z4 : (w.alloc (.cells #[.int .i64 i, .int .i64 u, .int .i64 c, .int .i64 f, .int .i64 l] 45)).cell? ⟨w.heap.size, 4, none⟩ = some (.int .i64 l) := hbk.cell 4
  have HBZ := Lib.hid hbz
  clear h hbk hbz
  generalize its.length = n at *
  by_cases d0 : i < 0
  · have hb1 : false = r := by rw [← hr]; symm; rw [Bool.eq_false_iff, Ne, may_iff]; simp only; omega
    subst hb1
    clear hr
    have e0 : decide (i < 0) = true := by simp; omega
    go_enter Try.func25, Try.ntmps25
    go_wp2_with fail
    generalize hwz : w.alloc (Obj.cells #[.int .i64 i, .int .i64 u, .int .i64 c, .int .i64 f, .int .i64 l] 45) = wz at z0 z1 z2 z3 z4 b0 HBZ ⊢
    generalize w.heap.size = q at z0 z1 z2 z3 z4 ⊢
    go_quiet (fail)
    go_wp2_with fail
    go_ret
    exact ⟨rfl, below_in HBZ.out (Quiet.below ⟨_, rfl⟩)⟩
  by_cases d1 : (n : Int) ≤ i
  · have hb1 : false = r := by rw [← hr]; symm; rw [Bool.eq_false_iff, Ne, may_iff]; simp only; omega
    subst hb1
    clear hr
    have e0 : decide (i < 0) = false := by simp; omega
    have e1 : decide ((n : Int) ≤ i) = true := by simp; omega
    go_enter Try.func25, Try.ntmps25
    go_wp2_with fail
    generalize hwz : w.alloc (Obj.cells #[.int .i64 i, .int .i64 u, .int .i64 c, .int .i64 f, .int .i64 l] 45) = wz at z0 z1 z2 z3 z4 b0 HBZ ⊢
    generalize w.heap.size = q at z0 z1 z2 z3 z4 ⊢
    go_quiet (fail)
    go_wp2_with fail
    go_ret
    exact ⟨rfl, below_in HBZ.out (Quiet.below ⟨_, rfl⟩)⟩
  by_cases d2 : u < 1
  · have hb1 : false = r := by rw [← hr]; symm; rw [Bool.eq_false_iff, Ne, may_iff]; simp only; omega
    subst hb1
    clear hr
    have e0 : decide (i < 0) = false := by simp; omega
    have e1 : decide ((n : Int) ≤ i) = false := by simp; omega
    have e2 : decide (u < 1) = true := by simp; omega
    go_enter Try.func25, Try.ntmps25
    go_wp2_with fail
    generalize hwz : w.alloc (Obj.cells #[.int .i64 i, .int .i64 u, .int .i64 c, .int .i64 f, .int .i64 l] 45) = wz at z0 z1 z2 z3 z4 b0 HBZ ⊢
    generalize w.heap.size = q at z0 z1 z2 z3 z4 ⊢
    go_quiet (fail)
    go_wp2_with fail
    go_ret
    exact ⟨rfl, below_in HBZ.out (Quiet.below ⟨_, rfl⟩)⟩
  by_cases d3 : c < 0
  · have hb1 : false = r := by rw [← hr]; symm; rw [Bool.eq_false_iff, Ne, may_iff]; simp only; omega
    subst hb1
    clear hr
    have e0 : decide (i < 0) = false := by simp; omega
    have e1 : decide ((n : Int) ≤ i) = false := by simp; omega
    have e2 : decide (u < 1) = false := by simp; omega
    have e3 : decide (c < 0) = true := by simp; omega
    go_enter Try.func25, Try.ntmps25
    go_wp2_with fail
    generalize hwz : w.alloc (Obj.cells #[.int .i64 i, .int .i64 u, .int .i64 c, .int .i64 f, .int .i64 l] 45) = wz at z0 z1 z2 z3 z4 b0 HBZ ⊢
    generalize w.heap.size = q at z0 z1 z2 z3 z4 ⊢
    go_quiet (fail)
    go_wp2_with fail
    go_ret
    exact ⟨rfl, below_in HBZ.out (Quiet.below ⟨_, rfl⟩)⟩
  by_cases d4 : f < 1
  · have hb1 : false = r := by rw [← hr]; symm; rw [Bool.eq_false_iff, Ne, may_iff]; simp only; omega
    subst hb1
    clear hr
    have e0 : decide (i < 0) = false := by simp; omega
    have e1 : decide ((n : Int) ≤ i) = false := by simp; omega
    have e2 : decide (u < 1) = false := by simp; omega
    have e3 : decide (c < 0) = false := by simp; omega
    have h1 : ¬ 1 ≤ f := by omega
    go_enter Try.func25, Try.ntmps25
    go_wp2_with fail
    generalize hwz : w.alloc (Obj.cells #[.int .i64 i, .int .i64 u, .int .i64 c, .int .i64 f, .int .i64 l] 45) = wz at z0 z1 z2 z3 z4 b0 HBZ ⊢
    generalize w.heap.size = q at z0 z1 z2 z3 z4 ⊢
    go_quiet (fail)
    go_wp2_with fail
    go_ret
    exact ⟨rfl, below_in HBZ.out (Quiet.below ⟨_, rfl⟩)⟩
  by_cases d5 : l < f
  · have hb1 : false = r := by rw [← hr]; symm; rw [Bool.eq_false_iff, Ne, may_iff]; simp only; omega
    subst hb1
    clear hr
    have e0 : decide (i < 0) = false := by simp; omega
    have e1 : decide ((n : Int) ≤ i) = false := by simp; omega
    have e2 : decide (u < 1) = false := by simp; omega
    have e3 : decide (c < 0) = false := by simp; omega
    have g1 : decide (1 ≤ f) = true := by simp; omega
    have g2 : decide (f ≤ l) = false := by simp; omega
    have h1 : 1 ≤ f := by omega
    have h2 : ¬ f ≤ l := by omega
    go_enter Try.func25, Try.ntmps25
    go_wp2_with fail
    generalize hwz : w.alloc (Obj.cells #[.int .i64 i, .int .i64 u, .int .i64 c, .int .i64 f, .int .i64 l] 45) = wz at z0 z1 z2 z3 z4 b0 HBZ ⊢
    generalize w.heap.size = q at z0 z1 z2 z3 z4 ⊢
    go_quiet (fail)
    go_wp2_with fail
    go_ret
    exact ⟨rfl, below_in HBZ.out (Quiet.below ⟨_, rfl⟩)⟩
  by_cases d6 : 1000000 < l
  · have hb1 : false = r := by rw [← hr]; symm; rw [Bool.eq_false_iff, Ne, may_iff]; simp only; omega
    subst hb1
    clear hr
    have e0 : decide (i < 0) = false := by simp; omega
    have e1 : decide ((n : Int) ≤ i) = false := by simp; omega
    have e2 : decide (u < 1) = false := by simp; omega
    have e3 : decide (c < 0) = false := by simp; omega
    have h1 : 1 ≤ f := by omega
    have h2 : f ≤ l := by omega
    have e4 : decide (l ≤ 1000000) = false := by simp; omega
    go_enter Try.func25, Try.ntmps25
    go_wp2_with fail
    generalize hwz : w.alloc (Obj.cells #[.int .i64 i, .int .i64 u, .int .i64 c, .int .i64 f, .int .i64 l] 45) = wz at z0 z1 z2 z3 z4 b0 HBZ ⊢
    generalize w.heap.size = q at z0 z1 z2 z3 z4 ⊢
    go_quiet (fail)
    go_wp2_with fail
    go_ret
    exact ⟨rfl, below_in HBZ.out (Quiet.below ⟨_, rfl⟩)⟩
  have hb1 : true = r := by rw [← hr]; symm; rw [may_iff]; simp only; omega
  subst hb1
  clear hr
  have e0 : decide (i < 0) = false := by simp; omega
  have e1 : decide ((n : Int) ≤ i) = false := by simp; omega
  have e2 : decide (u < 1) = false := by simp; omega
  have e3 : decide (c < 0) = false := by simp; omega
  have h1 : 1 ≤ f := by omega
  have h2 : f ≤ l := by omega
  have e4 : decide (l ≤ 1000000) = true := by simp; omega
  go_enter Try.func25, Try.ntmps25
  go_wp2_with fail
  generalize hwz : w.alloc (Obj.cells #[.int .i64 i, .int .i64 u, .int .i64 c, .int .i64 f, .int .i64 l] 45) = wz at z0 z1 z2 z3 z4 b0 HBZ ⊢
  generalize w.heap.size = q at z0 z1 z2 z3 z4 ⊢
  go_quiet (fail)
  go_wp2_with fail
  go_ret
  exact ⟨rfl, below_in HBZ.out (Quiet.below ⟨_, rfl⟩)⟩
end Go.Proofs.Ytleocecfcamjnaa.BK
