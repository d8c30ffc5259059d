/- The walks of cents: size, Add, Less, Part, Rest, Clamp. -/
import Derived.Test.YtbdhbongaikphaaDivided
namespace Go.Proofs.Ytbdhbongaikphaa.Cents
open Go.RowKit
set_option linter.unusedVariables false
set_option linter.unusedSimpArgs false

/-- The world is the old one, some orders having been drawn. -/
def Quiet (w w' : World) : Prop := ∃ n, w' = w.drewN n
theorem Quiet.refl (w : World) : Quiet w w := ⟨0, rfl⟩
theorem Quiet.drewN (w : World) (n : Nat) : Quiet w (w.drewN n) := ⟨n, rfl⟩

/-- A number of Go's kind int64. -/
def I64 (n : Int) : Prop := -9223372036854775808 ≤ n ∧ n < 9223372036854775808
instance (n : Int) : Decidable (I64 n) := inferInstanceAs (Decidable (_ ∧ _))

theorem ri {k : IntKind} {a b : Int} (h : a = b) : Ending.returned (.int k a) = .returned (.int k b) := by rw [h]
theorem rv {a b : Value} (h : a = b) : Ending.returned a = .returned b := by rw [h]
theorem w64 (x : Int) : wrap64 x = (x + 9223372036854775808) % 18446744073709551616 - 9223372036854775808 := by unfold wrap64; omega

theorem size_any (a : Int) (w : World) (ha : I64 a) :
    Calls Try.prog 45 #[.int .i64 a] w fun e w' => e = .returned (.int .u64 (a.natAbs : Int)) ∧ w = w' := by
  have HA := Lib.hid ha
  clear ha
  by_cases c : a < 0
  · have e : IntKind.u64.wrap (-(IntKind.u64.wrap a)) = (a.natAbs : Int) := by
      have := HA.out.1; rw [CM.u64wrap, CM.u64wrap]; omega
    have E := Lib.hid e
    clear e
    go_enter Try.func45, Try.ntmps45
    go_wp2
    go_ret
    exact ⟨ri E.out, rfl⟩
  · have e : IntKind.u64.wrap a = (a.natAbs : Int) := by
      have := HA.out.2; rw [CM.u64wrap]; omega
    have E := Lib.hid e
    clear e
    go_enter Try.func45, Try.ntmps45
    go_wp2
    go_ret
    exact ⟨ri E.out, rfl⟩

def addV (a b : Int) : Value := if I64 (a + b) then .tuple #[.int .i64 (a + b), .int .i64 0] else .tuple #[.int .i64 0, .int .i64 3]
theorem add_test (a b : Int) (ha : I64 a) (hb : I64 b) : (decide (wrap64 (a + b) < a) == decide (b < 0)) = decide (I64 (a + b)) := by
  unfold I64 at ha hb ⊢
  rw [w64]
  by_cases c : b < 0 <;> by_cases d : -9223372036854775808 ≤ a + b ∧ a + b < 9223372036854775808 <;> simp only [c, d, decide_true, decide_false] <;> simp <;> omega
theorem add_any (a b : Int) (w : World) (ha : I64 a) (hb : I64 b) :
    Calls Try.prog 33 #[.int .i64 a, .int .i64 b] w fun e w' => e = .returned (addV a b) ∧ w = w' := by
  have ht := add_test a b ha hb
  by_cases c : I64 (a + b)
  · have e : wrap64 (a + b) = a + b := by unfold I64 at c; rw [w64]; omega
    have e2 : addV a b = .tuple #[.int .i64 (wrap64 (a + b)), .int .i64 0] := by unfold addV; rw [if_pos c, e]
    have hb1 : (decide (wrap64 (a + b) < a) == decide (b < 0)) = true := by rw [ht]; simp [c]
    have E2 := Lib.hid e2
    clear e e2 ht c ha hb
    go_enter Try.func33, Try.ntmps33
    go_wp2
    go_ret2
    exact ⟨by rw [E2.out]; rfl, rfl⟩
  · have e2 : addV a b = .tuple #[.int .i64 0, .int .i64 3] := by unfold addV; rw [if_neg c]
    have hb1 : (decide (wrap64 (a + b) < a) == decide (b < 0)) = false := by rw [ht]; simp [c]
    have E2 := Lib.hid e2
    clear e2 ht c ha hb
    go_enter Try.func33, Try.ntmps33
    go_wp2
    go_ret2
    exact ⟨by rw [E2.out]; rfl, rfl⟩

def lessV (a b : Int) : Value := if I64 (a - b) then .tuple #[.int .i64 (a - b), .int .i64 0] else .tuple #[.int .i64 0, .int .i64 3]
theorem less_test (a b : Int) (ha : I64 a) (hb : I64 b) : (decide (a < wrap64 (a - b)) == decide (b < 0)) = decide (I64 (a - b)) := by
  unfold I64 at ha hb ⊢
  rw [w64]
  by_cases c : b < 0 <;> by_cases d : -9223372036854775808 ≤ a - b ∧ a - b < 9223372036854775808 <;> simp only [c, d, decide_true, decide_false] <;> simp <;> omega
end Go.Proofs.Ytbdhbongaikphaa.Cents
