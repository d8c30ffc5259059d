/- The walk of the law PortionTells. -/
import Derived.Test.YtejkamgidhpcjaaRefOutN
import Derived.Test.YtejkamgidhpcjaaRefSteps
import Derived.Test.YtejkamgidhpcjaaLaw02A
namespace Go.Proofs.Ytejkamgidhpcjaa.PO
open Go.RowKit Go.Proofs.Ytejkamgidhpcjaa.Cents Go.Proofs.Ytejkamgidhpcjaa.CO Go.Proofs.Ytejkamgidhpcjaa.Exact
set_option linter.unusedVariables false
set_option linter.unusedSimpArgs false

theorem outV_le (T : Int) (ws : List Int) : (outV T ws).length ≤ ws.length := by
  unfold outV
  split
  · rw [List.length_map, outL_len]; exact Nat.le_refl _
  · simp
theorem stV_le (T W : Int) (ws : List Int) : (stV T W ws).length ≤ ws.length := by
  unfold stV
  split
  · rw [stL_len]; exact Nat.le_refl _
  · simp
theorem tells_out (T : Int) (A : Option Addr) (n c : Nat) (W : Int) (w : World) (h : 70 < n) (hn : n ≤ 140737488351232) :
    Calls Try.prog 7 #[.int .i64 T, .slice A n c, .int .i64 W] w fun e w' => e = .returned (.bool true) ∧ Below w.heap.size w w' := by
  have hn2 : decide ((70 : Int) < (n : Int)) = true := by simp; omega
  clear h
  go_enter Try.func7, Try.ntmps7
  go_wp2_with fail
  refine (awake02 _).mono ?_
  rintro e w1 ⟨rfl, hb⟩
  have HB := Lib.hid hb
  clear hb
  go_wp2_with fail
  go_ret
  exact ⟨rfl, HB.out⟩
set_option maxHeartbeats 2000000 in
set_option maxRecDepth 100000 in
theorem tells_ok (T : Int) (A : Option Addr) (ws : List Int) (c : Nat) (W : Int) (w : World) (hT : I64 T) (hW : I64 W) (hx : ∀ x ∈ ws, I64 x) (hr : Row w 0 A (ints ws)) (hl : ws.length ≤ 70) :
    Calls Try.prog 7 #[.int .i64 T, .slice A ws.length c, .int .i64 W] w fun e w' => e = .returned (.bool true) ∧ Below w.heap.size w w' := by
  have HR := Lib.hid hr
  have HO := Lib.hid (fun w1 (h : Row w1 0 A (ints ws)) => out_any T A ws c w1 hT hx h (by omega))
  have HP := Lib.hid (fun w1 (h : Row w1 0 A (ints ws)) => rout_any T A ws c w1 hT hx h (by omega))
  have HS := Lib.hid (fun w1 (h : Row w1 0 A (ints ws)) => steps_any T W A ws c w1 hT hW hx h (by omega))
  have HQ := Lib.hid (fun w1 (h : Row w1 0 A (ints ws)) => rsteps_any T W A ws c w1 hT hW hx h (by omega))
  have HV := Lib.hid (show (outV T ws).length ≤ 1000000 by have := outV_le T ws; omega)
  have HU := Lib.hid (show (stV T W ws).length ≤ 1000000 by have := stV_le T W ws; omega)
  generalize outV T ws = V at *
  generalize outE T ws = E at *
  generalize stV T W ws = U at *
  generalize stE W ws = F at *
  generalize ws.length = n at *
  have hn2 : decide ((70 : Int) < (n : Int)) = false := by simp; omega
  clear hT hx hr hW
  go_enter Try.func7, Try.ntmps7
  go_wp2_with fail
  refine (awake02 _).mono ?_
  rintro e w1 ⟨rfl, hb⟩
  have HB := Lib.hid hb
  clear hb
  go_wp2_with fail
  refine (HO.out _ (HR.out.below HB.out)).mono ?_
  rintro e w2 ⟨B2, d2, rfl, r2, _, hb⟩
  have R2 := Lib.hid (r2.weak (Nat.zero_le _))
  have HB := Lib.hid (below_in HB.out hb)
  clear hb r2
  go_wp2_with fail
  refine (HP.out _ (HR.out.below HB.out)).mono ?_
  rintro e w3 ⟨B3, d3, rfl, r3, _, hb⟩
  have R2 := Lib.hid (R2.out.below hb)
  have R3 := Lib.hid (r3.weak (Nat.zero_le _))
  have HB := Lib.hid (below_in HB.out hb)
  clear hb r3
  go_wp2_with fail
  refine (HS.out _ (HR.out.below HB.out)).mono ?_
  rintro e w4 ⟨B4, d4, rfl, r4, _, hb⟩
  have R2 := Lib.hid (R2.out.below hb)
  have R3 := Lib.hid (R3.out.below hb)
  have R4 := Lib.hid (r4.weak (Nat.zero_le _))
  have HB := Lib.hid (below_in HB.out hb)
  clear hb r4
  go_wp2_with fail
  refine (HQ.out _ (HR.out.below HB.out)).mono ?_
  rintro e w5 ⟨B5, d5, rfl, r5, _, hb⟩
  have R2 := Lib.hid (R2.out.below hb)
  have R3 := Lib.hid (R3.out.below hb)
  have R4 := Lib.hid (R4.out.below hb)
  have R5 := Lib.hid (r5.weak (Nat.zero_le _))
  have HB := Lib.hid (below_in HB.out hb)
  clear hb r5
  go_wp2_with fail
  refine (same_any B2 B3 V V d2 d3 _ R2.out R3.out HV.out HV.out true (by simp)).mono ?_
  rintro e w6 ⟨rfl, hb⟩
  have R4 := Lib.hid (R4.out.below hb)
  have R5 := Lib.hid (R5.out.below hb)
  have HB := Lib.hid (below_in HB.out hb)
  clear hb
  go_wp2_with fail
  refine (same_any B4 B5 U U d4 d5 _ R4.out R5.out HU.out HU.out true (by simp)).mono ?_
  rintro e w7 ⟨rfl, hb⟩
  have HB := Lib.hid (below_in HB.out hb)
  clear hb
  go_wp2_with fail
  go_ret
  exact ⟨rfl, HB.out⟩
theorem tells_walk (T : Int) (A : Option Addr) (ws : List Int) (c : Nat) (W : Int) (w : World) (hT : I64 T) (hx : ∀ x ∈ ws, I64 x) (hr : Row w 0 A (ints ws)) (hl : ws.length * 8 ≤ 140737488351232) (hW : I64 W) :
    Calls Try.prog 7 #[.int .i64 T, .slice A ws.length c, .int .i64 W] w fun e w' => e = .returned (.bool true) ∧ Below w.heap.size w w' := by
  by_cases h : 70 < ws.length
  · exact tells_out T A ws.length c W w h (by omega)
  · exact tells_ok T A ws c W w hT hW hx hr (by omega)
end Go.Proofs.Ytejkamgidhpcjaa.PO
