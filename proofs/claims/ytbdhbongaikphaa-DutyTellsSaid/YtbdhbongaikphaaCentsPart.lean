/- The walks of cents.Part and cents.Rest. -/
import Derived.Test.YtbdhbongaikphaaCents
namespace Go.Proofs.Ytbdhbongaikphaa.Cents
open Go.RowKit
set_option linter.unusedVariables false
set_option linter.unusedSimpArgs false

theorem divided_yes (x y z q r : Int) (w : World) (hz : 1 ≤ z) (hz2 : z ≤ 9223372036854775808) (x0 : 0 ≤ x) (x1 : x < 18446744073709551616) (y0 : 0 ≤ y) (y1 : y < 18446744073709551616)
    (hq : q = x * y / z) (hr : r = x * y % z) (hl : q < 18446744073709551616) :
    Calls Try.prog 44 #[.int .u64 x, .int .u64 y, .int .u64 z] w fun e w' => e = .returned (.tuple #[.int .u64 q, .int .u64 r, .bool true]) ∧ Quiet w w' := by
  obtain ⟨a, rfl⟩ := Int.eq_ofNat_of_zero_le x0
  obtain ⟨p, rfl⟩ := Int.eq_ofNat_of_zero_le y0
  obtain ⟨m, rfl⟩ := Int.eq_ofNat_of_zero_le (show 0 ≤ z by omega)
  have e1 : ((a * p / m : Nat) : Int) = q := by rw [hq]; simp
  have e2 : ((a * p % m : Nat) : Int) = r := by rw [hr]; simp
  refine (divided_any a p m w (by omega) (by omega) (by omega) (by omega)).mono ?_
  rintro e w' ⟨rfl, hw⟩
  refine ⟨?_, hw⟩
  unfold divv
  rw [if_pos (by omega), e1, e2]

theorem divided_no (x y z : Int) (w : World) (hz : 1 ≤ z) (hz2 : z ≤ 9223372036854775808) (x0 : 0 ≤ x) (x1 : x < 18446744073709551616) (y0 : 0 ≤ y) (y1 : y < 18446744073709551616)
    (hl : 18446744073709551616 ≤ x * y / z) :
    Calls Try.prog 44 #[.int .u64 x, .int .u64 y, .int .u64 z] w fun e w' => e = .returned (.tuple #[.int .u64 0, .int .u64 0, .bool false]) ∧ Quiet w w' := by
  obtain ⟨a, rfl⟩ := Int.eq_ofNat_of_zero_le x0
  obtain ⟨p, rfl⟩ := Int.eq_ofNat_of_zero_le y0
  obtain ⟨m, rfl⟩ := Int.eq_ofNat_of_zero_le (show 0 ≤ z by omega)
  have e1 : ((a * p / m : Nat) : Int) = (a : Int) * p / m := by simp
  refine (divided_any a p m w (by omega) (by omega) (by omega) (by omega)).mono ?_
  rintro e w' ⟨rfl, hw⟩
  refine ⟨?_, hw⟩
  unfold divv
  rw [if_neg (by omega)]

/-- What Part and Rest tell. -/
def partN (a p m : Int) : Int := if m < 1 ∨ p < 0 then 0 else if I64 (a * p / m) then a * p / m else 0
def partE (a p m : Int) : Int := if m < 1 ∨ p < 0 then 1 else if I64 (a * p / m) then 0 else 3
def partT (a p m : Int) : Value := .tuple #[.int .i64 (partN a p m), .int .i64 (partE a p m)]
def restN (a p m : Int) : Int := if m < 1 ∨ p < 0 then 0 else a * p % m
def restE (a p m : Int) : Int := if m < 1 ∨ p < 0 then 1 else 0
def restT (a p m : Int) : Value := .tuple #[.int .i64 (restN a p m), .int .i64 (restE a p m)]

theorem natAbs_lt {a : Int} (h : I64 a) : (a.natAbs : Int) < 18446744073709551616 := by have := h.1; have := h.2; omega

theorem part_over (a p m : Int) (w : World) (ha : I64 a) (hp : I64 p) (hm : I64 m) (h1 : 1 ≤ m) (h2 : 0 ≤ p) (hl : 18446744073709551616 ≤ (a.natAbs : Int) * p / m) :
    Calls Try.prog 32 #[.int .i64 a, .int .i64 p, .int .i64 m] w fun e w' => e = .returned (.tuple #[.int .i64 0, .int .i64 3]) ∧ Quiet w w' := by
  have HA := Lib.hid ha
  have HP := Lib.hid hp
  have HM := Lib.hid hm
  have HL := Lib.hid hl
  have ep : IntKind.u64.wrap p = p := by rw [CM.u64wrap]; have := hp.2; omega
  have em : IntKind.u64.wrap m = m := by rw [CM.u64wrap]; have := hm.2; omega
  clear ha hp hm hl
  go_enter Try.func32, Try.ntmps32
  go_wp2_with fail
  refine (size_any _ _ HA.out).mono ?_
  rintro e w' ⟨rfl, rfl⟩
  go_wp2_with fail
  refine (divided_no _ _ _ _ h1 (by have := HM.out.2; omega) (by omega) (natAbs_lt HA.out) h2 (by have := HP.out.2; omega) HL.out).mono ?_
  rintro e w' ⟨rfl, n, rfl⟩
  go_wp2_with fail
  go_ret2
  exact ⟨rfl, n, rfl⟩

theorem part_leaf {a p m x y : Int} (h : partN a p m = x ∧ partE a p m = y) : Value.tuple #[.int .i64 x, .int .i64 y] = partT a p m := by unfold partT; rw [h.1, h.2]

theorem div_sign {a p m q r : Int} (h1 : 1 ≤ m) (hq : q = (a.natAbs : Int) * p / m) (hr : r = (a.natAbs : Int) * p % m) :
    (0 ≤ a → a * p / m = q) ∧ (a < 0 → r = 0 → a * p / m = -q) ∧ (a < 0 → r ≠ 0 → a * p / m = -q - 1) := by
  have hd := Int.mul_ediv_add_emod ((a.natAbs : Int) * p) m
  rw [← hq, ← hr] at hd
  have r0 : 0 ≤ r := hr ▸ Int.emod_nonneg _ (by omega)
  have r1 : r < m := hr ▸ Int.emod_lt_of_pos _ (by omega)
  refine ⟨fun h => ?_, fun h h' => ?_, fun h h' => ?_⟩
  · rw [hq, Int.natAbs_of_nonneg h]
  · have e : a * p = m * (-q) + 0 := by
      have : (a.natAbs : Int) = -a := by omega
      rw [this, Int.neg_mul] at hd
      rw [Int.mul_neg]; omega
    rw [e, Int.add_zero, Int.mul_ediv_cancel_left _ (by omega)]
  · have e : a * p = (m - r) + m * (-q - 1) := by
      have : (a.natAbs : Int) = -a := by omega
      rw [this, Int.neg_mul] at hd
      rw [Int.mul_sub, Int.mul_neg, Int.mul_one]; omega
    rw [e, Int.add_mul_ediv_left _ _ (by omega), Int.ediv_eq_zero_of_lt (by omega) (by omega)]; omega

theorem part_sum {a p m x y D : Int} (h1 : 1 ≤ m) (h2 : 0 ≤ p) (hD : a * p / m = D) (hin : -9223372036854775808 ≤ D → D < 9223372036854775808 → D = x ∧ 0 = y)
    (hout : D < -9223372036854775808 ∨ 9223372036854775808 ≤ D → 0 = x ∧ 3 = y) : partN a p m = x ∧ partE a p m = y := by
  unfold partN partE
  have hb : ¬ (m < 1 ∨ p < 0) := by omega
  rw [if_neg hb, if_neg hb, hD]
  by_cases c : I64 D
  · rw [if_pos c, if_pos c]; exact hin c.1 c.2
  · rw [if_neg c, if_neg c]; exact hout (by unfold I64 at c; omega)

theorem part_fits (a p m q r : Int) (w : World) (ha : I64 a) (hp : I64 p) (hm : I64 m) (h1 : 1 ≤ m) (h2 : 0 ≤ p) (hq : q = (a.natAbs : Int) * p / m) (hr : r = (a.natAbs : Int) * p % m) (hl : q < 18446744073709551616) :
    Calls Try.prog 32 #[.int .i64 a, .int .i64 p, .int .i64 m] w fun e w' => e = .returned (partT a p m) ∧ Quiet w w' := by
  have HA := Lib.hid ha
  have HP := Lib.hid hp
  have HM := Lib.hid hm
  have HL := Lib.hid hl
  have HQ := Lib.hid hq
  have HR := Lib.hid hr
  have ep : IntKind.u64.wrap p = p := by rw [CM.u64wrap]; have := hp.2; omega
  have em : IntKind.u64.wrap m = m := by rw [CM.u64wrap]; have := hm.2; omega
  clear ha hp hm hl hq hr
  go_enter Try.func32, Try.ntmps32
  go_wp2_with fail
  refine (size_any _ _ HA.out).mono ?_
  rintro e w' ⟨rfl, rfl⟩
  go_wp2_with fail
  refine (divided_yes _ _ _ q r _ h1 (by have := HM.out.2; omega) (by omega) (natAbs_lt HA.out) h2 (by have := HP.out.2; omega) HQ.out HR.out HL.out).mono ?_
  rintro e w' ⟨rfl, n, rfl⟩
  go_wp2_with fail
  all_goals
    go_ret2
    refine ⟨rv (part_leaf ?_), n, rfl⟩
    have hs := div_sign h1 HQ.out HR.out
    have hl := HL.out
    have q0 : 0 ≤ q := HQ.out ▸ Int.ediv_nonneg (Int.mul_nonneg (by omega) h2) (by omega)
    have r0 : 0 ≤ r := HR.out ▸ Int.emod_nonneg _ (by omega)
    clear ep em
    rcases Int.lt_or_le a 0 with ca | ca
    · by_cases cr : r = 0
      · refine part_sum h1 h2 (hs.2.1 ca cr) ?_ ?_ <;> intros <;> (try simp only [w64]) <;> constructor <;> first | omega | trivial
      · refine part_sum h1 h2 (hs.2.2 ca cr) ?_ ?_ <;> intros <;> (try simp only [w64]) <;> constructor <;> first | omega | trivial
    · refine part_sum h1 h2 (hs.1 ca) ?_ ?_ <;> intros <;> (try simp only [w64]) <;> constructor <;> first | omega | trivial

theorem part_bad (a p m : Int) (w : World) (h : m < 1 ∨ p < 0) :
    Calls Try.prog 32 #[.int .i64 a, .int .i64 p, .int .i64 m] w fun e w' => e = .returned (partT a p m) ∧ Quiet w w' := by
  have e : partT a p m = .tuple #[.int .i64 0, .int .i64 1] := by unfold partT partN partE; rw [if_pos h, if_pos h]
  have E := Lib.hid e
  clear e
  by_cases c : m < 1
  · clear h
    go_enter Try.func32, Try.ntmps32
    go_wp2
    go_ret2
    exact ⟨by rw [E.out]; rfl, Quiet.refl _⟩
  · have d : p < 0 := by omega
    clear h
    go_enter Try.func32, Try.ntmps32
    go_wp2
    go_ret2
    exact ⟨by rw [E.out]; rfl, Quiet.refl _⟩

theorem part_any (a p m : Int) (w : World) (ha : I64 a) (hp : I64 p) (hm : I64 m) :
    Calls Try.prog 32 #[.int .i64 a, .int .i64 p, .int .i64 m] w fun e w' => e = .returned (partT a p m) ∧ Quiet w w' := by
  by_cases h : m < 1 ∨ p < 0
  · exact part_bad a p m w h
  · by_cases hl : (a.natAbs : Int) * p / m < 18446744073709551616
    · exact part_fits a p m _ _ w ha hp hm (by omega) (by omega) rfl rfl hl
    · refine (part_over a p m w ha hp hm (by omega) (by omega) (by omega)).mono ?_
      rintro e w' ⟨rfl, hw⟩
      refine ⟨rv (part_leaf ?_), hw⟩
      have hs := div_sign (a := a) (p := p) (m := m) (by omega) rfl rfl
      by_cases c : 0 ≤ a
      · exact part_sum (by omega) (by omega) (hs.1 c) (by omega) (fun _ => ⟨rfl, rfl⟩)
      · by_cases d : (a.natAbs : Int) * p % m = 0
        · exact part_sum (by omega) (by omega) (hs.2.1 (by omega) d) (by omega) (fun _ => ⟨rfl, rfl⟩)
        · exact part_sum (by omega) (by omega) (hs.2.2 (by omega) d) (by omega) (fun _ => ⟨rfl, rfl⟩)

theorem quiet_size (a : Int) (w : World) (n : Nat) (ha : I64 a) :
    Calls Try.prog 45 #[.int .i64 a] (w.drewN n) fun e w' => e = .returned (.int .u64 (a.natAbs : Int)) ∧ ∃ m, w' = w.drewN m :=
  (size_any a _ ha).mono fun _ _ ⟨h, hw⟩ => ⟨h, n, hw.symm⟩
theorem quiet_divided (x y z q r : Int) (w : World) (n : Nat) (hz : 1 ≤ z) (hz2 : z ≤ 9223372036854775808) (x0 : 0 ≤ x) (x1 : x < z) (y0 : 0 ≤ y) (y1 : y < z)
    (hq : q = x * y / z) (hr : r = x * y % z) :
    Calls Try.prog 44 #[.int .u64 x, .int .u64 y, .int .u64 z] (w.drewN n) fun e w' => e = .returned (.tuple #[.int .u64 q, .int .u64 r, .bool true]) ∧ ∃ m, w' = w.drewN m := by
  have hl : q < 18446744073709551616 := by
    have h1 : x * y ≤ x * z := Int.mul_le_mul_of_nonneg_left (by omega) x0
    have h2 : q ≤ x := by rw [hq]; exact Int.ediv_le_of_le_mul (by omega) h1
    omega
  exact (divided_yes x y z q r _ hz hz2 x0 (by omega) y0 (by omega) hq hr hl).mono fun _ _ ⟨h, m, hw⟩ => ⟨h, n + m, by rw [hw, World.drewN_drewN]⟩

theorem rest_leaf {a p m x y : Int} (h : restN a p m = x ∧ restE a p m = y) : Value.tuple #[.int .i64 x, .int .i64 y] = restT a p m := by unfold restT; rw [h.1, h.2]
theorem mod_sign {a p m r : Int} (h1 : 1 ≤ m) (hr : r = (a.natAbs : Int) % m * (p % m) % m) :
    0 ≤ r ∧ r < m ∧ (0 ≤ a → a * p % m = r) ∧ (a < 0 → r = 0 → a * p % m = 0) ∧ (a < 0 → r ≠ 0 → a * p % m = m - r) := by
  rw [← Int.mul_emod] at hr
  have hd := Int.mul_ediv_add_emod ((a.natAbs : Int) * p) m
  rw [← hr] at hd
  have r0 : 0 ≤ r := hr ▸ Int.emod_nonneg _ (by omega)
  have r1 : r < m := hr ▸ Int.emod_lt_of_pos _ (by omega)
  generalize (a.natAbs : Int) * p / m = q at hd
  refine ⟨r0, r1, fun h => ?_, fun h h' => ?_, fun h h' => ?_⟩
  · rw [hr, Int.natAbs_of_nonneg h]
  · have e : a * p = 0 + m * (-q) := by
      have : (a.natAbs : Int) = -a := by omega
      rw [this, Int.neg_mul] at hd
      rw [Int.mul_neg]; omega
    rw [e, Int.add_mul_emod_self_left]; rfl
  · have e : a * p = (m - r) + m * (-q - 1) := by
      have : (a.natAbs : Int) = -a := by omega
      rw [this, Int.neg_mul] at hd
      rw [Int.mul_sub, Int.mul_neg, Int.mul_one]; omega
    rw [e, Int.add_mul_emod_self_left, Int.emod_eq_of_lt (by omega) (by omega)]
theorem rest_sum {a p m x y D : Int} (h1 : 1 ≤ m) (h2 : 0 ≤ p) (hD : a * p % m = D) (h : D = x ∧ 0 = y) : restN a p m = x ∧ restE a p m = y := by
  unfold restN restE
  have hb : ¬ (m < 1 ∨ p < 0) := by omega
  rw [if_neg hb, if_neg hb, hD]; exact h

end Go.Proofs.Ytbdhbongaikphaa.Cents
