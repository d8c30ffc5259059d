/- The walk of the law CentsParts. -/
import Derived.Test.YtdapcahphaldjaaRefPart
import Derived.Test.YtdapcahphaldjaaLaw01
namespace Go.Proofs.Ytdapcahphaldjaa.Exact
open Go.RowKit Go.Proofs.Ytdapcahphaldjaa.Cents
set_option linter.unusedVariables false
set_option linter.unusedSimpArgs false

theorem rpart_bad (a p m : Int) (w : World) (h : m < 1 ∨ p < 0) :
    Calls Try.prog 42 #[.int .i64 a, .int .i64 p, .int .i64 m] w fun e w' => e = .returned (.tuple #[.int .i64 0, .int .i64 1]) ∧ Below w.heap.size w w' := by
  by_cases c : m < 1
  · clear h
    go_enter Try.func42, Try.ntmps42
    go_wp2_with fail
    go_ret2
    exact ⟨rfl, Below.refl _ _⟩
  · have d : p < 0 := by omega
    clear h
    go_enter Try.func42, Try.ntmps42
    go_wp2_with fail
    go_ret2
    exact ⟨rfl, Below.refl _ _⟩
theorem rrest_bad (a p m : Int) (w : World) (h : m < 1 ∨ p < 0) :
    Calls Try.prog 44 #[.int .i64 a, .int .i64 p, .int .i64 m] w fun e w' => e = .returned (.tuple #[.int .i64 0, .int .i64 1]) ∧ Below w.heap.size w w' := by
  by_cases c : m < 1
  · clear h
    go_enter Try.func44, Try.ntmps44
    go_wp2_with fail
    go_ret2
    exact ⟨rfl, Below.refl _ _⟩
  · have d : p < 0 := by omega
    clear h
    go_enter Try.func44, Try.ntmps44
    go_wp2_with fail
    go_ret2
    exact ⟨rfl, Below.refl _ _⟩
theorem rpart_is (a p m x y : Int) (w : World) (ha : I64 a) (hp : I64 p) (hm : I64 m) (h : partN a p m = x ∧ partE a p m = y) :
    Calls Try.prog 42 #[.int .i64 a, .int .i64 p, .int .i64 m] w fun e w' => e = .returned (.tuple #[.int .i64 x, .int .i64 y]) ∧ Below w.heap.size w w' := by
  unfold partN partE at h
  by_cases c : m < 1 ∨ p < 0
  · rw [if_pos c, if_pos c] at h
    rw [← h.1, ← h.2]; exact rpart_bad a p m w c
  · rw [if_neg c, if_neg c] at h
    exact rpart_ok a p m w ha hp hm (by omega) (by omega) x y h
theorem rrest_is (a p m x y : Int) (w : World) (ha : I64 a) (hp : I64 p) (hm : I64 m) (h : restN a p m = x ∧ restE a p m = y) :
    Calls Try.prog 44 #[.int .i64 a, .int .i64 p, .int .i64 m] w fun e w' => e = .returned (.tuple #[.int .i64 x, .int .i64 y]) ∧ Below w.heap.size w w' := by
  unfold restN restE at h
  by_cases c : m < 1 ∨ p < 0
  · rw [if_pos c, if_pos c] at h
    rw [← h.1, ← h.2]; exact rrest_bad a p m w c
  · rw [if_neg c, if_neg c] at h
    have h1 := Int.emod_nonneg (a * p) (show m ≠ 0 by omega)
    have h2 := Int.emod_lt_of_pos (a * p) (show 0 < m by omega)
    have h3 : I64 (a * p % m) := ⟨by omega, by have := hm.2; omega⟩
    exact rrest_ok a p m w ha hp hm (by omega) (by omega) x y (by unfold fitN fitE; rw [if_pos h3, if_pos h3]; exact h)
end Go.Proofs.Ytdapcahphaldjaa.Exact
namespace Go.Proofs.Ytdapcahphaldjaa.Cents
open Go.RowKit Go.Proofs.Ytdapcahphaldjaa.Exact
set_option maxHeartbeats 2000000 in
set_option maxRecDepth 100000 in
theorem parts_walk (a p m : Int) (w : World) (ha : I64 a) (hp : I64 p) (hm : I64 m) :
    Calls Try.prog 10 #[.int .i64 a, .int .i64 p, .int .i64 m] w fun e w' => e = .returned (.bool true) ∧ Below w.heap.size w w' := by
  have HA := Lib.hid ha
  have HP := Lib.hid hp
  have HM := Lib.hid hm
  obtain ⟨x1, hx1⟩ : ∃ x, partN a p m = x := ⟨_, rfl⟩
  obtain ⟨y1, hy1⟩ : ∃ x, partE a p m = x := ⟨_, rfl⟩
  obtain ⟨x2, hx2⟩ : ∃ x, restN a p m = x := ⟨_, rfl⟩
  obtain ⟨y2, hy2⟩ : ∃ x, restE a p m = x := ⟨_, rfl⟩
  have S1 := Lib.hid (And.intro hx1 hy1)
  have S2 := Lib.hid (And.intro hx2 hy2)
  clear ha hp hm hx1 hy1 hx2 hy2
  go_enter Try.func10, Try.ntmps10
  go_wp2_with fail
  refine (awake01 _).mono ?_
  rintro e w1 ⟨rfl, hb1⟩
  have L := Lib.hid (show Later w w1 from hb1)
  clear hb1
  go_wp2_with fail
  refine (part_is a p m x1 y1 _ HA.out HP.out HM.out S1.out).mono ?_
  rintro e w2 ⟨rfl, hb⟩
  have L := Lib.hid (L.out.trans hb.below)
  clear hb
  go_wp2_with fail
  refine (rpart_is a p m x1 y1 _ HA.out HP.out HM.out S1.out).mono ?_
  rintro e w3 ⟨rfl, hb⟩
  have L := Lib.hid (L.out.trans hb)
  clear hb
  go_wp2_with fail
  refine (rest_is a p m x2 y2 _ HA.out HP.out HM.out S2.out).mono ?_
  rintro e w4 ⟨rfl, hb⟩
  have L := Lib.hid (L.out.trans hb.below)
  clear hb
  go_wp2_with fail
  refine (rrest_is a p m x2 y2 _ HA.out HP.out HM.out S2.out).mono ?_
  rintro e w5 ⟨rfl, hb⟩
  have L := Lib.hid (L.out.trans hb)
  clear hb
  go_wp2_with fail
  go_ret
  exact ⟨rfl, L.out⟩
end Go.Proofs.Ytdapcahphaldjaa.Cents
