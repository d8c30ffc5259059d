/- The walk of the law CentsRises. -/
import Derived.Test.YtdapcahphaldjaaLaw01
namespace Go.Proofs.Ytdapcahphaldjaa.Cents
open Go.RowKit
set_option linter.unusedVariables false
set_option linter.unusedSimpArgs false

theorem part_all {a m : Int} (ha : I64 a) (h1 : 1 ≤ m) : partN a m m = a ∧ partE a m m = 0 := by
  have h := part_ok (p := m) ha h1 (by omega) (Int.le_refl _)
  rw [Int.mul_ediv_cancel _ (by omega)] at h
  exact h
theorem part_none {a m : Int} (ha : I64 a) (h1 : 1 ≤ m) : partN a 0 m = 0 ∧ partE a 0 m = 0 := by
  have h := part_ok (p := 0) ha h1 (by omega) (by omega)
  simpa using h
theorem part_err {a p m : Int} : partE a p m = 0 ∨ 1 ≤ partE a p m := by
  unfold partE; split
  · omega
  · split <;> omega
theorem part_val {a p m : Int} (h : partE a p m = 0) : 1 ≤ m ∧ 0 ≤ p ∧ partN a p m = a * p / m := by
  unfold partE at h
  unfold partN
  by_cases c : m < 1 ∨ p < 0
  · rw [if_pos c] at h; omega
  · rw [if_neg c] at h
    by_cases d : I64 (a * p / m)
    · rw [if_neg c, if_pos d]; exact ⟨by omega, by omega, rfl⟩
    · rw [if_neg d] at h; omega
theorem part_mono {a p q m : Int} (h : 0 ≤ a) (h1 : 1 ≤ m) (h2 : p ≤ q) : a * p / m ≤ a * q / m := Int.ediv_le_ediv (by omega) (Int.mul_le_mul_of_nonneg_left h2 h)

set_option maxHeartbeats 1000000 in
set_option maxRecDepth 100000 in
theorem rises_low (a p q m x y ex ey : Int) (w : World) (ha : I64 a) (hp : I64 p) (hq : I64 q) (hm : I64 m) (p1 : partN a p m = x ∧ partE a p m = ex) (p2 : partN a q m = y ∧ partE a q m = ey) (h1 : m < 1) (he : 1 ≤ ex) :
    Calls Try.prog 11 #[.int .i64 a, .int .i64 p, .int .i64 q, .int .i64 m] w fun e w' => e = .returned (.bool true) ∧ Below w.heap.size w w' := by
  have HA := Lib.hid ha
  have HP := Lib.hid hp
  have HQ := Lib.hid hq
  have HM := Lib.hid hm
  have H0 : Hid (I64 0) := by unfold Hid I64; omega
  have P1 := Lib.hid p1
  have P2 := Lib.hid p2
  clear ha hp hq hm p1 p2
  go_enter Try.func11, Try.ntmps11
  go_wp2_with fail
  refine (awake01 _).mono ?_
  rintro e w1 ⟨rfl, hb1⟩
  have HB1 := Lib.hid hb1
  clear hb1
  go_wp2_with fail
  refine (part_is _ _ _ _ _ _ HA.out HP.out HM.out P1.out).mono ?_
  rintro e w2 ⟨rfl, hq2⟩
  have HQ2 := Lib.hid hq2
  clear hq2
  go_wp2_with fail
  refine (part_is _ _ _ _ _ _ HA.out HQ.out HM.out P2.out).mono ?_
  rintro e w3 ⟨rfl, hq3⟩
  have HQ3 := Lib.hid hq3
  clear hq3
  go_wp2_with fail
  go_ret
  exact ⟨rfl, below_quiet HB1.out (HQ2.out.trans HQ3.out)⟩

set_option maxHeartbeats 1000000 in
set_option maxRecDepth 100000 in
theorem rises_e (a p q m x y ex ey : Int) (w : World) (ha : I64 a) (hp : I64 p) (hq : I64 q) (hm : I64 m) (p1 : partN a p m = x ∧ partE a p m = ex) (p2 : partN a q m = y ∧ partE a q m = ey) (h1 : 1 ≤ m) (he : 1 ≤ ex) :
    Calls Try.prog 11 #[.int .i64 a, .int .i64 p, .int .i64 q, .int .i64 m] w fun e w' => e = .returned (.bool true) ∧ Below w.heap.size w w' := by
  have HA := Lib.hid ha
  have HP := Lib.hid hp
  have HQ := Lib.hid hq
  have HM := Lib.hid hm
  have H0 : Hid (I64 0) := by unfold Hid I64; omega
  have P1 := Lib.hid p1
  have P2 := Lib.hid p2
  have P3 := Lib.hid (part_all ha h1)
  have P4 := Lib.hid (part_none ha h1)
  clear ha hp hq hm p1 p2
  go_enter Try.func11, Try.ntmps11
  go_wp2_with fail
  refine (awake01 _).mono ?_
  rintro e w1 ⟨rfl, hb1⟩
  have HB1 := Lib.hid hb1
  clear hb1
  go_wp2_with fail
  refine (part_is _ _ _ _ _ _ HA.out HP.out HM.out P1.out).mono ?_
  rintro e w2 ⟨rfl, hq2⟩
  have HQ2 := Lib.hid hq2
  clear hq2
  go_wp2_with fail
  refine (part_is _ _ _ _ _ _ HA.out HQ.out HM.out P2.out).mono ?_
  rintro e w3 ⟨rfl, hq3⟩
  have HQ3 := Lib.hid hq3
  clear hq3
  go_wp2_with fail
  refine (part_is _ _ _ _ _ _ HA.out HM.out HM.out P3.out).mono ?_
  rintro e w4 ⟨rfl, hq4⟩
  have HQ4 := Lib.hid hq4
  clear hq4
  go_wp2_with fail
  refine (part_is _ _ _ _ _ _ HA.out H0.out HM.out P4.out).mono ?_
  rintro e w5 ⟨rfl, hq5⟩
  have HQ5 := Lib.hid hq5
  clear hq5
  go_wp2_with fail
  go_ret
  exact ⟨rfl, below_quiet HB1.out (((HQ2.out.trans HQ3.out).trans HQ4.out).trans HQ5.out)⟩

set_option maxHeartbeats 1000000 in
set_option maxRecDepth 100000 in
theorem rises_f (a p q m x y ex ey : Int) (w : World) (ha : I64 a) (hp : I64 p) (hq : I64 q) (hm : I64 m) (p1 : partN a p m = x ∧ partE a p m = ex) (p2 : partN a q m = y ∧ partE a q m = ey) (h1 : 1 ≤ m) (h0 : ex = 0) (hf : 1 ≤ ey) :
    Calls Try.prog 11 #[.int .i64 a, .int .i64 p, .int .i64 q, .int .i64 m] w fun e w' => e = .returned (.bool true) ∧ Below w.heap.size w w' := by
  have HA := Lib.hid ha
  have HP := Lib.hid hp
  have HQ := Lib.hid hq
  have HM := Lib.hid hm
  have H0 : Hid (I64 0) := by unfold Hid I64; omega
  have P1 := Lib.hid p1
  have P2 := Lib.hid p2
  subst h0
  have P3 := Lib.hid (part_all ha h1)
  have P4 := Lib.hid (part_none ha h1)
  clear ha hp hq hm p1 p2
  go_enter Try.func11, Try.ntmps11
  go_wp2_with fail
  refine (awake01 _).mono ?_
  rintro e w1 ⟨rfl, hb1⟩
  have HB1 := Lib.hid hb1
  clear hb1
  go_wp2_with fail
  refine (part_is _ _ _ _ _ _ HA.out HP.out HM.out P1.out).mono ?_
  rintro e w2 ⟨rfl, hq2⟩
  have HQ2 := Lib.hid hq2
  clear hq2
  go_wp2_with fail
  refine (part_is _ _ _ _ _ _ HA.out HQ.out HM.out P2.out).mono ?_
  rintro e w3 ⟨rfl, hq3⟩
  have HQ3 := Lib.hid hq3
  clear hq3
  go_wp2_with fail
  refine (part_is _ _ _ _ _ _ HA.out HM.out HM.out P3.out).mono ?_
  rintro e w4 ⟨rfl, hq4⟩
  have HQ4 := Lib.hid hq4
  clear hq4
  go_wp2_with fail
  refine (part_is _ _ _ _ _ _ HA.out H0.out HM.out P4.out).mono ?_
  rintro e w5 ⟨rfl, hq5⟩
  have HQ5 := Lib.hid hq5
  clear hq5
  go_wp2_with fail
  go_ret
  exact ⟨rfl, below_quiet HB1.out (((HQ2.out.trans HQ3.out).trans HQ4.out).trans HQ5.out)⟩

set_option maxHeartbeats 1000000 in
set_option maxRecDepth 100000 in
theorem rises_neg (a p q m x y ex ey : Int) (w : World) (ha : I64 a) (hp : I64 p) (hq : I64 q) (hm : I64 m) (p1 : partN a p m = x ∧ partE a p m = ex) (p2 : partN a q m = y ∧ partE a q m = ey) (h1 : 1 ≤ m) (h0 : ex = 0) (hf : ey = 0) (hn : a < 0) :
    Calls Try.prog 11 #[.int .i64 a, .int .i64 p, .int .i64 q, .int .i64 m] w fun e w' => e = .returned (.bool true) ∧ Below w.heap.size w w' := by
  have HA := Lib.hid ha
  have HP := Lib.hid hp
  have HQ := Lib.hid hq
  have HM := Lib.hid hm
  have H0 : Hid (I64 0) := by unfold Hid I64; omega
  have P1 := Lib.hid p1
  have P2 := Lib.hid p2
  subst h0
  subst hf
  have P3 := Lib.hid (part_all ha h1)
  have P4 := Lib.hid (part_none ha h1)
  clear ha hp hq hm p1 p2
  go_enter Try.func11, Try.ntmps11
  go_wp2_with fail
  refine (awake01 _).mono ?_
  rintro e w1 ⟨rfl, hb1⟩
  have HB1 := Lib.hid hb1
  clear hb1
  go_wp2_with fail
  refine (part_is _ _ _ _ _ _ HA.out HP.out HM.out P1.out).mono ?_
  rintro e w2 ⟨rfl, hq2⟩
  have HQ2 := Lib.hid hq2
  clear hq2
  go_wp2_with fail
  refine (part_is _ _ _ _ _ _ HA.out HQ.out HM.out P2.out).mono ?_
  rintro e w3 ⟨rfl, hq3⟩
  have HQ3 := Lib.hid hq3
  clear hq3
  go_wp2_with fail
  refine (part_is _ _ _ _ _ _ HA.out HM.out HM.out P3.out).mono ?_
  rintro e w4 ⟨rfl, hq4⟩
  have HQ4 := Lib.hid hq4
  clear hq4
  go_wp2_with fail
  refine (part_is _ _ _ _ _ _ HA.out H0.out HM.out P4.out).mono ?_
  rintro e w5 ⟨rfl, hq5⟩
  have HQ5 := Lib.hid hq5
  clear hq5
  go_wp2_with fail
  go_ret
  exact ⟨rfl, below_quiet HB1.out (((HQ2.out.trans HQ3.out).trans HQ4.out).trans HQ5.out)⟩

set_option maxHeartbeats 1000000 in
set_option maxRecDepth 100000 in
theorem rises_up (a p q m x y ex ey : Int) (w : World) (ha : I64 a) (hp : I64 p) (hq : I64 q) (hm : I64 m) (p1 : partN a p m = x ∧ partE a p m = ex) (p2 : partN a q m = y ∧ partE a q m = ey) (h1 : 1 ≤ m) (h0 : ex = 0) (hf : ey = 0) (hn : 0 ≤ a) (hpq : p ≤ q) (hxy : x ≤ y) :
    Calls Try.prog 11 #[.int .i64 a, .int .i64 p, .int .i64 q, .int .i64 m] w fun e w' => e = .returned (.bool true) ∧ Below w.heap.size w w' := by
  have HA := Lib.hid ha
  have HP := Lib.hid hp
  have HQ := Lib.hid hq
  have HM := Lib.hid hm
  have H0 : Hid (I64 0) := by unfold Hid I64; omega
  have P1 := Lib.hid p1
  have P2 := Lib.hid p2
  subst h0
  subst hf
  have P3 := Lib.hid (part_all ha h1)
  have P4 := Lib.hid (part_none ha h1)
  clear ha hp hq hm p1 p2
  go_enter Try.func11, Try.ntmps11
  go_wp2_with fail
  refine (awake01 _).mono ?_
  rintro e w1 ⟨rfl, hb1⟩
  have HB1 := Lib.hid hb1
  clear hb1
  go_wp2_with fail
  refine (part_is _ _ _ _ _ _ HA.out HP.out HM.out P1.out).mono ?_
  rintro e w2 ⟨rfl, hq2⟩
  have HQ2 := Lib.hid hq2
  clear hq2
  go_wp2_with fail
  refine (part_is _ _ _ _ _ _ HA.out HQ.out HM.out P2.out).mono ?_
  rintro e w3 ⟨rfl, hq3⟩
  have HQ3 := Lib.hid hq3
  clear hq3
  go_wp2_with fail
  refine (part_is _ _ _ _ _ _ HA.out HM.out HM.out P3.out).mono ?_
  rintro e w4 ⟨rfl, hq4⟩
  have HQ4 := Lib.hid hq4
  clear hq4
  go_wp2_with fail
  refine (part_is _ _ _ _ _ _ HA.out H0.out HM.out P4.out).mono ?_
  rintro e w5 ⟨rfl, hq5⟩
  have HQ5 := Lib.hid hq5
  clear hq5
  go_wp2_with fail
  go_ret
  exact ⟨rfl, below_quiet HB1.out (((HQ2.out.trans HQ3.out).trans HQ4.out).trans HQ5.out)⟩

set_option maxHeartbeats 1000000 in
set_option maxRecDepth 100000 in
theorem rises_down (a p q m x y ex ey : Int) (w : World) (ha : I64 a) (hp : I64 p) (hq : I64 q) (hm : I64 m) (p1 : partN a p m = x ∧ partE a p m = ex) (p2 : partN a q m = y ∧ partE a q m = ey) (h1 : 1 ≤ m) (h0 : ex = 0) (hf : ey = 0) (hn : 0 ≤ a) (hpq : q < p) (hxy : y ≤ x) :
    Calls Try.prog 11 #[.int .i64 a, .int .i64 p, .int .i64 q, .int .i64 m] w fun e w' => e = .returned (.bool true) ∧ Below w.heap.size w w' := by
  have HA := Lib.hid ha
  have HP := Lib.hid hp
  have HQ := Lib.hid hq
  have HM := Lib.hid hm
  have H0 : Hid (I64 0) := by unfold Hid I64; omega
  have P1 := Lib.hid p1
  have P2 := Lib.hid p2
  subst h0
  subst hf
  have P3 := Lib.hid (part_all ha h1)
  have P4 := Lib.hid (part_none ha h1)
  clear ha hp hq hm p1 p2
  go_enter Try.func11, Try.ntmps11
  go_wp2_with fail
  refine (awake01 _).mono ?_
  rintro e w1 ⟨rfl, hb1⟩
  have HB1 := Lib.hid hb1
  clear hb1
  go_wp2_with fail
  refine (part_is _ _ _ _ _ _ HA.out HP.out HM.out P1.out).mono ?_
  rintro e w2 ⟨rfl, hq2⟩
  have HQ2 := Lib.hid hq2
  clear hq2
  go_wp2_with fail
  refine (part_is _ _ _ _ _ _ HA.out HQ.out HM.out P2.out).mono ?_
  rintro e w3 ⟨rfl, hq3⟩
  have HQ3 := Lib.hid hq3
  clear hq3
  go_wp2_with fail
  refine (part_is _ _ _ _ _ _ HA.out HM.out HM.out P3.out).mono ?_
  rintro e w4 ⟨rfl, hq4⟩
  have HQ4 := Lib.hid hq4
  clear hq4
  go_wp2_with fail
  refine (part_is _ _ _ _ _ _ HA.out H0.out HM.out P4.out).mono ?_
  rintro e w5 ⟨rfl, hq5⟩
  have HQ5 := Lib.hid hq5
  clear hq5
  go_wp2_with fail
  go_ret
  exact ⟨rfl, below_quiet HB1.out (((HQ2.out.trans HQ3.out).trans HQ4.out).trans HQ5.out)⟩

theorem rises_walk (a p q m : Int) (w : World) (ha : I64 a) (hp : I64 p) (hq : I64 q) (hm : I64 m) :
    Calls Try.prog 11 #[.int .i64 a, .int .i64 p, .int .i64 q, .int .i64 m] w fun e w' => e = .returned (.bool true) ∧ Below w.heap.size w w' := by
  rcases part_err (a := a) (p := p) (m := m) with e | e
  · obtain ⟨h1, h2, hx⟩ := part_val e
    rcases part_err (a := a) (p := q) (m := m) with f | f
    · obtain ⟨_, h3, hy⟩ := part_val f
      rcases Int.lt_or_le a 0 with hn | hn
      · exact rises_neg a p q m _ _ _ _ w ha hp hq hm ⟨rfl, rfl⟩ ⟨rfl, rfl⟩ h1 e f hn
      · rcases Int.lt_or_le q p with hpq | hpq
        · exact rises_down a p q m _ _ _ _ w ha hp hq hm ⟨rfl, rfl⟩ ⟨rfl, rfl⟩ h1 e f hn hpq (by rw [hx, hy]; exact part_mono hn h1 (by omega))
        · exact rises_up a p q m _ _ _ _ w ha hp hq hm ⟨rfl, rfl⟩ ⟨rfl, rfl⟩ h1 e f hn hpq (by rw [hx, hy]; exact part_mono hn h1 hpq)
    · exact rises_f a p q m _ _ _ _ w ha hp hq hm ⟨rfl, rfl⟩ ⟨rfl, rfl⟩ h1 e f
  · rcases Int.lt_or_le m 1 with h1 | h1
    · exact rises_low a p q m _ _ _ _ w ha hp hq hm ⟨rfl, rfl⟩ ⟨rfl, rfl⟩ h1 e
    · exact rises_e a p q m _ _ _ _ w ha hp hq hm ⟨rfl, rfl⟩ ⟨rfl, rfl⟩ h1 e
end Go.Proofs.Ytdapcahphaldjaa.Cents
