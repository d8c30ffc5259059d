/- The walks of the laws of cents that name no reference: awake, CentsRises, CentsWhole. -/
import Derived.Test.YtdapcahphaldjaaCentsPart
import Derived.Test.YtdapcahphaldjaaSum
namespace Go.Proofs.Ytdapcahphaldjaa.Cents
open Go.RowKit
set_option linter.unusedVariables false
set_option linter.unusedSimpArgs false

theorem Quiet.below {w w' : World} (h : Quiet w w') : Below w.heap.size w w' := by
  obtain ⟨n, rfl⟩ := h
  exact ⟨rfl, rfl, rfl, Nat.le_refl _, fun _ _ => rfl⟩
theorem Quiet.trans {a b c : World} (h : Quiet a b) (k : Quiet b c) : Quiet a c := by
  obtain ⟨n, rfl⟩ := h
  obtain ⟨m, rfl⟩ := k
  exact ⟨n + m, World.drewN_drewN ..⟩

theorem part_is (a p m x y : Int) (w : World) (ha : I64 a) (hp : I64 p) (hm : I64 m) (h : partN a p m = x ∧ partE a p m = y) :
    Calls Try.prog 41 #[.int .i64 a, .int .i64 p, .int .i64 m] w fun e w' => e = .returned (.tuple #[.int .i64 x, .int .i64 y]) ∧ Quiet w w' :=
  (part_any a p m w ha hp hm).mono fun _ _ ⟨h1, h2⟩ => ⟨by rw [h1, part_leaf h], h2⟩
theorem rest_is (a p m x y : Int) (w : World) (ha : I64 a) (hp : I64 p) (hm : I64 m) (h : restN a p m = x ∧ restE a p m = y) :
    Calls Try.prog 43 #[.int .i64 a, .int .i64 p, .int .i64 m] w fun e w' => e = .returned (.tuple #[.int .i64 x, .int .i64 y]) ∧ Quiet w w' :=
  (rest_any a p m w ha hp hm).mono fun _ _ ⟨h1, h2⟩ => ⟨by rw [h1, rest_leaf h], h2⟩
theorem less_no (a b : Int) (w : World) (ha : I64 a) (hb : I64 b) (h : ¬ I64 (a - b)) :
    Calls Try.prog 37 #[.int .i64 a, .int .i64 b] w fun e w' => e = .returned (.tuple #[.int .i64 0, .int .i64 3]) ∧ w = w' := (less_any a b w ha hb).mono fun _ _ ⟨h1, h2⟩ => ⟨by rw [h1]; unfold lessV; rw [if_neg h], h2⟩
theorem less_yes (a b : Int) (w : World) (ha : I64 a) (hb : I64 b) (h : I64 (a - b)) :
    Calls Try.prog 37 #[.int .i64 a, .int .i64 b] w fun e w' => e = .returned (.tuple #[.int .i64 (a - b), .int .i64 0]) ∧ w = w' := (less_any a b w ha hb).mono fun _ _ ⟨h1, h2⟩ => ⟨by rw [h1]; unfold lessV; rw [if_pos h], h2⟩
theorem clamp_is (n lo hi x : Int) (w : World) (h : clampV n lo hi = x) :
    Calls Try.prog 40 #[.int .i64 n, .int .i64 lo, .int .i64 hi] w fun e w' => e = .returned (.int .i64 x) ∧ w = w' := h ▸ clamp_any n lo hi w
theorem sum_is (A : Option Addr) (xs : List Int) (c : Nat) (w : World) (x y : Int) (hx : ∀ x ∈ xs, I64 x) (hr : Row w 0 A (ints xs)) (hl : xs.length * 8 ≤ 140737488351232) (h : sumN xs.sum = x ∧ sumE xs.sum = y) :
    Calls Try.prog 32 #[.slice A xs.length c] w fun e w' => e = .returned (.tuple #[.int .i64 x, .int .i64 y]) ∧ Below w.heap.size w w' :=
  (sum_any A xs c w hx hr hl).mono fun _ _ ⟨h1, h2⟩ => ⟨by rw [h1]; unfold sumT; rw [h.1, h.2], h2⟩

set_option maxHeartbeats 1000000 in
set_option maxRecDepth 100000 in
theorem awake01 (w : World) : Calls Try.prog 33 #[] w fun e w' => e = .returned (.bool true) ∧ Below w.heap.size w w' := by
  go_enter Try.func33, Try.ntmps33
  go_wp2_with fail
  refine (add_no _ _ _ (by decide) (by decide) (by decide)).mono ?_
  rintro e w' ⟨rfl, rfl⟩
  go_wp2_with fail
  refine (less_no _ _ _ (by decide) (by decide) (by decide)).mono ?_
  rintro e w' ⟨rfl, rfl⟩
  go_wp2_with fail
  refine (sum_is _ [9223372036854775807, 5, -7] 3 _ 9223372036854775805 0 (by decide) (.of_blk (Blk.new _ _ _) (Nat.zero_le _) rfl) (by decide) (by decide)).mono ?_
  rintro e w1 ⟨rfl, hb1⟩
  have HB1 := Lib.hid hb1
  clear hb1
  go_wp2_with fail
  refine (part_is _ _ _ (-11) 0 _ (by decide) (by decide) (by decide) (by decide)).mono ?_
  rintro e w2 ⟨rfl, hq2⟩
  have HQ2 := Lib.hid hq2
  clear hq2
  go_wp2_with fail
  refine (part_is _ _ _ 10 0 _ (by decide) (by decide) (by decide) (by decide)).mono ?_
  rintro e w3 ⟨rfl, hq3⟩
  have HQ3 := Lib.hid hq3
  clear hq3
  go_wp2_with fail
  refine (rest_is _ _ _ 1 0 _ (by decide) (by decide) (by decide) (by decide)).mono ?_
  rintro e w4 ⟨rfl, hq4⟩
  have HQ4 := Lib.hid hq4
  clear hq4
  go_wp2_with fail
  refine (part_is _ _ _ 0 1 _ (by decide) (by decide) (by decide) (by decide)).mono ?_
  rintro e w5 ⟨rfl, hq5⟩
  have HQ5 := Lib.hid hq5
  clear hq5
  go_wp2_with fail
  refine (clamp_is _ _ _ 5 _ (by decide)).mono ?_
  rintro e w' ⟨rfl, rfl⟩
  go_wp2_with fail
  refine (clamp_is _ _ _ 1 _ (by decide)).mono ?_
  rintro e w' ⟨rfl, rfl⟩
  go_wp2_with fail
  go_ret
  refine ⟨rfl, ?_⟩
  have hq := ((HQ2.out.trans HQ3.out).trans HQ4.out).trans HQ5.out
  have b0 : Below w.heap.size w (w.alloc (.cells #[.int .i64 9223372036854775807, .int .i64 5, .int .i64 (-7)] 2)) := (Below.refl _ _).alloc (Nat.le_refl _) _
  exact (b0.trans (HB1.out.mono b0.size)).trans (hq.below.mono (b0.trans (HB1.out.mono b0.size)).size)

/-! ### CentsWhole -/
theorem part_in {a p m : Int} (ha : I64 a) (h1 : 1 ≤ m) (h2 : 0 ≤ p) (h3 : p ≤ m) : I64 (a * p / m) := by
  unfold I64 at ha ⊢
  rcases Int.lt_or_le a 0 with c | c
  · have e1 : a * m ≤ a * p := Int.mul_le_mul_of_nonpos_left (by omega) h3
    have e2 : a * p ≤ 0 := by have := Int.mul_le_mul_of_nonpos_left (a := a) (by omega) h2; simpa using this
    have e3 : a ≤ a * p / m := by rw [Int.le_ediv_iff_mul_le (by omega)]; exact e1
    have e4 : a * p / m ≤ 0 := by
      have := Int.ediv_le_ediv (a := a * p) (b := 0) (c := m) (by omega) e2
      simpa using this
    omega
  · have e1 : a * p ≤ a * m := Int.mul_le_mul_of_nonneg_left h3 c
    have e2 : 0 ≤ a * p := Int.mul_nonneg c h2
    have e3 : a * p / m ≤ a := Int.ediv_le_of_le_mul (by omega) e1
    have e4 : 0 ≤ a * p / m := Int.ediv_nonneg e2 (by omega)
    omega
theorem part_ok {a p m : Int} (ha : I64 a) (h1 : 1 ≤ m) (h2 : 0 ≤ p) (h3 : p ≤ m) : partN a p m = a * p / m ∧ partE a p m = 0 := by
  unfold partN partE
  have hb : ¬ (m < 1 ∨ p < 0) := by omega
  rw [if_neg hb, if_neg hb, if_pos (part_in ha h1 h2 h3), if_pos (part_in ha h1 h2 h3)]
  exact ⟨rfl, rfl⟩
theorem rest_ok {a p m : Int} (h1 : 1 ≤ m) (h2 : 0 ≤ p) : restN a p m = a * p % m ∧ restE a p m = 0 := by
  unfold restN restE
  have hb : ¬ (m < 1 ∨ p < 0) := by omega
  rw [if_neg hb, if_neg hb]
  exact ⟨rfl, rfl⟩
/-- The parts of two that are the whole. -/
theorem halves {a p m : Int} (h1 : 1 ≤ m) : 0 ≤ a * p % m ∧ a * p % m < m ∧ 0 ≤ a * (m - p) % m ∧ a * (m - p) % m < m ∧
    ((a * p % m = 0 ∧ a * (m - p) % m = 0 ∧ a * p / m + a * (m - p) / m = a) ∨ (0 < a * p % m ∧ a * (m - p) % m = m - a * p % m ∧ a * p / m + a * (m - p) / m = a - 1)) := by
  have r0 := Int.emod_nonneg (a * p) (show m ≠ 0 by omega)
  have r1 := Int.emod_lt_of_pos (a * p) (show 0 < m by omega)
  have hd := Int.mul_ediv_add_emod (a * p) m
  generalize a * p % m = r at *
  generalize hq : a * p / m = q at *
  have e0 : a * (m - p) = -r + m * (a - q) := by
    rw [Int.mul_sub, Int.mul_sub, ← hd, Int.mul_comm m a]; omega
  have e1 : a * (m - p) % m = (-r) % m := by rw [e0, Int.add_mul_emod_self_left]
  have e2 : a * (m - p) / m = (-r) / m + (a - q) := by rw [e0, Int.add_mul_ediv_left _ _ (by omega)]
  rw [e1, e2]
  by_cases c : r = 0
  · subst c; simp; omega
  · have e3 : (-r) % m = m - r := by
      have : -r = (m - r) + m * (-1) := by omega
      rw [this, Int.add_mul_emod_self_left, Int.emod_eq_of_lt (by omega) (by omega)]
    have e4 : (-r) / m = -1 := by
      have : -r = (m - r) + m * (-1) := by omega
      rw [this, Int.add_mul_ediv_left _ _ (by omega), Int.ediv_eq_zero_of_lt (by omega) (by omega)]; omega
    rw [e3, e4]
    omega

/-- What is behind a call of awake and calls that only draw. -/
theorem below_quiet {w w1 w2 : World} (h : Below w.heap.size w w1) (k : Quiet w1 w2) : Below w.heap.size w w2 := h.trans (k.below.mono h.size)

set_option maxHeartbeats 1000000 in
set_option maxRecDepth 100000 in
theorem whole_out (a p m : Int) (w : World) (h : m < 1 ∨ p < 0 ∨ m < p) :
    Calls Try.prog 12 #[.int .i64 a, .int .i64 p, .int .i64 m] w fun e w' => e = .returned (.bool true) ∧ Below w.heap.size w w' := by
  by_cases h1 : m < 1
  · clear h
    go_enter Try.func12, Try.ntmps12
    go_wp2_with fail
    refine (awake01 _).mono ?_
    rintro e w1 ⟨rfl, hb1⟩
    go_wp2_with fail
    go_ret
    exact ⟨rfl, hb1⟩
  · by_cases h2 : p < 0
    · clear h
      go_enter Try.func12, Try.ntmps12
      go_wp2_with fail
      refine (awake01 _).mono ?_
      rintro e w1 ⟨rfl, hb1⟩
      go_wp2_with fail
      go_ret
      exact ⟨rfl, hb1⟩
    · have h3 : m < p := by omega
      clear h
      go_enter Try.func12, Try.ntmps12
      go_wp2_with fail
      refine (awake01 _).mono ?_
      rintro e w1 ⟨rfl, hb1⟩
      go_wp2_with fail
      go_ret
      exact ⟨rfl, hb1⟩

set_option maxHeartbeats 2000000 in
set_option maxRecDepth 100000 in
theorem whole_zero (a p m : Int) (w : World) (ha : I64 a) (hp : I64 p) (hm : I64 m) (h1 : 1 ≤ m) (h2 : 0 ≤ p) (h3 : p ≤ m) (h : a * p % m = 0 ∧ a * (m - p) % m = 0 ∧ a * p / m + a * (m - p) / m = a) :
    Calls Try.prog 12 #[.int .i64 a, .int .i64 p, .int .i64 m] w fun e w' => e = .returned (.bool true) ∧ Below w.heap.size w w' := by
  have m2 := hm.2
  have hmp : I64 (m - p) := by unfold I64; omega
  have HA := Lib.hid ha
  have HP := Lib.hid hp
  have HM := Lib.hid hm
  have HMP := Lib.hid hmp
  obtain ⟨r0, r1, s0, s1, _⟩ := halves (a := a) (p := p) h1
  have P1 := Lib.hid (part_ok ha h1 h2 h3)
  have P2 := Lib.hid (part_ok (p := m - p) ha h1 (by omega) (by omega))
  have R1 := Lib.hid (rest_ok (a := a) h1 h2)
  have R2 := Lib.hid (rest_ok (a := a) (p := m - p) h1 (by omega))
  have X := Lib.hid (part_in ha h1 h2 h3)
  have Y := Lib.hid (part_in (p := m - p) ha h1 (by omega) (by omega))
  generalize a * p / m = x at *
  generalize a * (m - p) / m = y at *
  generalize a * p % m = r at *
  generalize a * (m - p) % m = s at *
  obtain ⟨rfl, rfl, he⟩ := h
  have t1 : (x + y == a) = true := by rw [he]; simp
  have Z : Hid (I64 (x + y)) := by rw [he]; exact ha
  clear ha hp hm hmp he
  go_enter Try.func12, Try.ntmps12
  go_wp2_with fail
  refine (awake01 _).mono ?_
  rintro e w1 ⟨rfl, hb1⟩
  have HB1 := Lib.hid hb1
  clear hb1
  go_wp2_with fail
  refine (part_is _ _ _ _ _ _ HA.out HP.out HM.out P1.out).mono ?_
  rintro e w2 ⟨rfl, hq2⟩
  have HQ2 := Lib.hid hq2
  clear hq2
  go_wp2_with fail
  refine (part_is _ _ _ _ _ _ HA.out HMP.out HM.out P2.out).mono ?_
  rintro e w3 ⟨rfl, hq3⟩
  have HQ3 := Lib.hid hq3
  clear hq3
  go_wp2_with fail
  refine (rest_is _ _ _ _ _ _ HA.out HP.out HM.out R1.out).mono ?_
  rintro e w4 ⟨rfl, hq4⟩
  have HQ4 := Lib.hid hq4
  clear hq4
  go_wp2_with fail
  refine (rest_is _ _ _ _ _ _ HA.out HMP.out HM.out R2.out).mono ?_
  rintro e w5 ⟨rfl, hq5⟩
  have HQ5 := Lib.hid hq5
  clear hq5
  go_wp2_with fail
  refine (add_yes _ _ _ X.out Y.out Z.out).mono ?_
  rintro e w6 ⟨rfl, rfl⟩
  go_wp2_with fail
  go_ret
  exact ⟨rfl, below_quiet HB1.out (((HQ2.out.trans HQ3.out).trans HQ4.out).trans HQ5.out)⟩

set_option maxHeartbeats 2000000 in
set_option maxRecDepth 100000 in
theorem whole_one (a p m : Int) (w : World) (ha : I64 a) (hp : I64 p) (hm : I64 m) (h1 : 1 ≤ m) (h2 : 0 ≤ p) (h3 : p ≤ m) (h : 0 < a * p % m ∧ a * (m - p) % m = m - a * p % m ∧ a * p / m + a * (m - p) / m = a - 1) (hs : I64 (a - 1)) :
    Calls Try.prog 12 #[.int .i64 a, .int .i64 p, .int .i64 m] w fun e w' => e = .returned (.bool true) ∧ Below w.heap.size w w' := by
  have m2 := hm.2
  have hmp : I64 (m - p) := by unfold I64; omega
  have HA := Lib.hid ha
  have HP := Lib.hid hp
  have HM := Lib.hid hm
  have HMP := Lib.hid hmp
  obtain ⟨r0, r1, s0, s1, _⟩ := halves (a := a) (p := p) h1
  have P1 := Lib.hid (part_ok ha h1 h2 h3)
  have P2 := Lib.hid (part_ok (p := m - p) ha h1 (by omega) (by omega))
  have R1 := Lib.hid (rest_ok (a := a) h1 h2)
  have R2 := Lib.hid (rest_ok (a := a) (p := m - p) h1 (by omega))
  have X := Lib.hid (part_in ha h1 h2 h3)
  have Y := Lib.hid (part_in (p := m - p) ha h1 (by omega) (by omega))
  generalize a * p / m = x at *
  generalize a * (m - p) / m = y at *
  generalize a * p % m = r at *
  generalize a * (m - p) % m = s at *
  obtain ⟨hr, rfl, he⟩ := h
  have t1 : (x + y == a - 1) = true := by rw [he]; simp
  have t2 : (r == 0) = false := by simp; omega
  have a1 : -9223372036854775808 ≤ a - 1 := hs.1
  have a2 : a < 9223372036854775808 := ha.2
  have Z : Hid (I64 (x + y)) := by rw [he]; exact hs
  clear hs
  clear ha hp hm hmp he
  go_enter Try.func12, Try.ntmps12
  go_wp2_with fail
  refine (awake01 _).mono ?_
  rintro e w1 ⟨rfl, hb1⟩
  have HB1 := Lib.hid hb1
  clear hb1
  go_wp2_with fail
  refine (part_is _ _ _ _ _ _ HA.out HP.out HM.out P1.out).mono ?_
  rintro e w2 ⟨rfl, hq2⟩
  have HQ2 := Lib.hid hq2
  clear hq2
  go_wp2_with fail
  refine (part_is _ _ _ _ _ _ HA.out HMP.out HM.out P2.out).mono ?_
  rintro e w3 ⟨rfl, hq3⟩
  have HQ3 := Lib.hid hq3
  clear hq3
  go_wp2_with fail
  refine (rest_is _ _ _ _ _ _ HA.out HP.out HM.out R1.out).mono ?_
  rintro e w4 ⟨rfl, hq4⟩
  have HQ4 := Lib.hid hq4
  clear hq4
  go_wp2_with fail
  refine (rest_is _ _ _ _ _ _ HA.out HMP.out HM.out R2.out).mono ?_
  rintro e w5 ⟨rfl, hq5⟩
  have HQ5 := Lib.hid hq5
  clear hq5
  go_wp2_with fail
  refine (add_yes _ _ _ X.out Y.out Z.out).mono ?_
  rintro e w6 ⟨rfl, rfl⟩
  go_wp2_with fail
  go_ret
  exact ⟨rfl, below_quiet HB1.out (((HQ2.out.trans HQ3.out).trans HQ4.out).trans HQ5.out)⟩

set_option maxHeartbeats 2000000 in
set_option maxRecDepth 100000 in
theorem whole_least (a p m : Int) (w : World) (ha : I64 a) (hp : I64 p) (hm : I64 m) (h1 : 1 ≤ m) (h2 : 0 ≤ p) (h3 : p ≤ m) (h : 0 < a * p % m ∧ a * (m - p) % m = m - a * p % m ∧ a * p / m + a * (m - p) / m = a - 1) (hs : ¬ I64 (a - 1)) :
    Calls Try.prog 12 #[.int .i64 a, .int .i64 p, .int .i64 m] w fun e w' => e = .returned (.bool true) ∧ Below w.heap.size w w' := by
  have m2 := hm.2
  have hmp : I64 (m - p) := by unfold I64; omega
  have HA := Lib.hid ha
  have HP := Lib.hid hp
  have HM := Lib.hid hm
  have HMP := Lib.hid hmp
  obtain ⟨r0, r1, s0, s1, _⟩ := halves (a := a) (p := p) h1
  have P1 := Lib.hid (part_ok ha h1 h2 h3)
  have P2 := Lib.hid (part_ok (p := m - p) ha h1 (by omega) (by omega))
  have R1 := Lib.hid (rest_ok (a := a) h1 h2)
  have R2 := Lib.hid (rest_ok (a := a) (p := m - p) h1 (by omega))
  have X := Lib.hid (part_in ha h1 h2 h3)
  have Y := Lib.hid (part_in (p := m - p) ha h1 (by omega) (by omega))
  generalize a * p / m = x at *
  generalize a * (m - p) / m = y at *
  generalize a * p % m = r at *
  generalize a * (m - p) % m = s at *
  obtain ⟨hr, rfl, he⟩ := h
  obtain rfl : a = -9223372036854775808 := by unfold I64 at ha hs; omega
  have Z : Hid (¬ I64 (x + y)) := by rw [he]; exact hs
  clear hs
  clear ha hp hm hmp he
  go_enter Try.func12, Try.ntmps12
  go_wp2_with fail
  refine (awake01 _).mono ?_
  rintro e w1 ⟨rfl, hb1⟩
  have HB1 := Lib.hid hb1
  clear hb1
  go_wp2_with fail
  refine (part_is _ _ _ _ _ _ HA.out HP.out HM.out P1.out).mono ?_
  rintro e w2 ⟨rfl, hq2⟩
  have HQ2 := Lib.hid hq2
  clear hq2
  go_wp2_with fail
  refine (part_is _ _ _ _ _ _ HA.out HMP.out HM.out P2.out).mono ?_
  rintro e w3 ⟨rfl, hq3⟩
  have HQ3 := Lib.hid hq3
  clear hq3
  go_wp2_with fail
  refine (rest_is _ _ _ _ _ _ HA.out HP.out HM.out R1.out).mono ?_
  rintro e w4 ⟨rfl, hq4⟩
  have HQ4 := Lib.hid hq4
  clear hq4
  go_wp2_with fail
  refine (rest_is _ _ _ _ _ _ HA.out HMP.out HM.out R2.out).mono ?_
  rintro e w5 ⟨rfl, hq5⟩
  have HQ5 := Lib.hid hq5
  clear hq5
  go_wp2_with fail
  refine (add_no _ _ _ X.out Y.out Z.out).mono ?_
  rintro e w6 ⟨rfl, rfl⟩
  go_wp2_with fail
  go_ret
  exact ⟨rfl, below_quiet HB1.out (((HQ2.out.trans HQ3.out).trans HQ4.out).trans HQ5.out)⟩

theorem whole_walk (a p m : Int) (w : World) (ha : I64 a) (hp : I64 p) (hm : I64 m) :
    Calls Try.prog 12 #[.int .i64 a, .int .i64 p, .int .i64 m] w fun e w' => e = .returned (.bool true) ∧ Below w.heap.size w w' := by
  by_cases h : m < 1 ∨ p < 0 ∨ m < p
  · exact whole_out a p m w h
  · obtain ⟨_, _, _, _, h0 | h0⟩ := halves (a := a) (p := p) (m := m) (by omega)
    · exact whole_zero a p m w ha hp hm (by omega) (by omega) (by omega) h0
    · by_cases hs : I64 (a - 1)
      · exact whole_one a p m w ha hp hm (by omega) (by omega) (by omega) h0 hs
      · exact whole_least a p m w ha hp hm (by omega) (by omega) (by omega) h0 hs

end Go.Proofs.Ytdapcahphaldjaa.Cents
