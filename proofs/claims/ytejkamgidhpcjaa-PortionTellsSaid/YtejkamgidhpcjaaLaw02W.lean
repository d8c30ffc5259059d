/- The walk of the law PortionWhole. -/
import Derived.Test.YtejkamgidhpcjaaLaw02A
import Derived.Test.YtejkamgidhpcjaaPortionGood
namespace Go.Proofs.Ytejkamgidhpcjaa.PO
open Go.RowKit Go.Proofs.Ytejkamgidhpcjaa.Cents Go.Proofs.Ytejkamgidhpcjaa.CO
set_option linter.unusedVariables false
set_option linter.unusedSimpArgs false

theorem whole_out (T : Int) (A : Option Addr) (n c : Nat) (w : World) (h : 70 < n) (hn : n ≤ 140737488351232) :
    Calls Try.prog 8 #[.int .i64 T, .slice A n c] w fun e w' => e = .returned (.bool true) ∧ Below w.heap.size w w' := by
  have hn2 : decide ((70 : Int) < (n : Int)) = true := by simp; omega
  clear h
  go_enter Try.func8, Try.ntmps8
  go_wp2_with fail
  refine (awake02 _).mono ?_
  rintro e w1 ⟨rfl, hb⟩
  have HB := Lib.hid hb
  clear hb
  go_wp2_with fail
  go_ret
  exact ⟨rfl, HB.out⟩
theorem below_in {w w1 w2 : World} (h : Below w.heap.size w w1) (k : Below w1.heap.size w1 w2) : Below w.heap.size w w2 := h.trans (k.mono h.size)
theorem whole_bad (T : Int) (A : Option Addr) (ws : List Int) (c : Nat) (w : World) (hT : I64 T) (hx : ∀ x ∈ ws, I64 x) (hr : Row w 0 A (ints ws)) (hl : ws.length ≤ 70) (hE : outE T ws ≠ 0) :
    Calls Try.prog 8 #[.int .i64 T, .slice A ws.length c] w fun e w' => e = .returned (.bool true) ∧ Below w.heap.size w w' := by
  have HR := Lib.hid hr
  have HO := Lib.hid (fun w1 (h : Row w1 0 A (ints ws)) => out_is T A ws c w1 hT hx h (by omega) [] (outE T ws) ⟨outV_bad hE, rfl⟩)
  generalize outE T ws = E at *
  generalize ws.length = n at *
  have hb0 : (E != 0) = true := by simpa using hE
  have hn2 : decide ((70 : Int) < (n : Int)) = false := by simp; omega
  clear hT hx hr hE
  go_enter Try.func8, Try.ntmps8
  go_wp2_with fail
  refine (awake02 _).mono ?_
  rintro e w1 ⟨rfl, hb⟩
  have HB := Lib.hid hb
  clear hb
  go_wp2_with fail
  refine (HO.out _ (HR.out.below HB.out)).mono ?_
  rintro e w2 ⟨B, d, rfl, _, _, hb⟩
  have HB := Lib.hid (below_in HB.out hb)
  clear hb
  go_wp2_with fail
  go_ret
  exact ⟨rfl, HB.out⟩
set_option maxHeartbeats 1000000 in
set_option maxRecDepth 100000 in
theorem whole_ok (T : Int) (A : Option Addr) (ws : List Int) (c : Nat) (w : World) (hT : I64 T) (hx : ∀ x ∈ ws, I64 x) (hr : Row w 0 A (ints ws)) (hl : ws.length ≤ 70) (hE : outE T ws = 0) :
    Calls Try.prog 8 #[.int .i64 T, .slice A ws.length c] w fun e w' => e = .returned (.bool true) ∧ Below w.heap.size w w' := by
  have HR := Lib.hid hr
  have hG := outV_good hE
  have HO := Lib.hid (fun w1 (h : Row w1 0 A (ints ws)) => out_is T A ws c w1 hT hx h (by omega) (outV T ws) 0 ⟨rfl, hE⟩)
  generalize outV T ws = V at *
  generalize ws.sum = S at *
  have HG := Lib.hid hG
  have HS := Lib.hid (fun B d w1 (h : Row w1 0 B (ints V)) => sum_is B V d w1 T 0 (hG.I hT) h (by rw [hG.len]; omega) (by unfold sumN sumE; rw [hG.sum, if_pos hT, if_pos hT]; exact ⟨rfl, rfl⟩))
  obtain ⟨n, hn⟩ : ∃ n, ws.length = n := ⟨_, rfl⟩
  have hv := hG.len
  rw [hn] at hv
  have HN := Lib.hid hn
  have HVN := Lib.hid hv
  rw [hn] at HO hl ⊢
  rw [hv] at HS
  have hn2 : decide ((70 : Int) < (n : Int)) = false := by simp; omega
  have hT1 := hT.1
  have hT2 := hT.2
  clear hT hx hr hE hG hn hv
  go_enter Try.func8, Try.ntmps8
  go_wp2_with fail
  refine (awake02 _).mono ?_
  rintro e w1 ⟨rfl, hb⟩
  have HB := Lib.hid hb
  clear hb
  go_wp2_with fail
  refine (HO.out _ (HR.out.below HB.out)).mono ?_
  rintro e w2 ⟨B, d, rfl, hrow, _, hb⟩
  rw [HVN.out]
  have HB := Lib.hid (below_in HB.out hb)
  have HRV := Lib.hid (hrow.weak (Nat.zero_le _))
  clear hb hrow
  go_wp2_with fail
  refine (HS.out _ _ _ HRV.out).mono ?_
  rintro e w3 ⟨rfl, hb⟩
  have HB := Lib.hid (below_in HB.out hb)
  have HRV := Lib.hid (HRV.out.below hb)
  clear hb
  go_wp2_with fail
  go_loop [48] (fun i => ∃ k : Nat, i = .int .i64 (k : Int) ∧ k ≤ n) (fun i => n - (intOf i).toNat)
  case atStart => exact ⟨0, rfl, by omega⟩
  case round =>
    obtain ⟨k, rfl, hk⟩ := hrel
    have g0 : (0 : Int) ≤ (k : Int) := Int.natCast_nonneg _
    by_cases hlt : k < n
    · obtain ⟨ad, rfl, c0⟩ := int_cell (HR.out.below HB.out) (j := k) (by rw [HN.out]; exact hlt)
      obtain ⟨bd, rfl, c1⟩ := int_cell HRV.out (j := k) (by rw [HVN.out]; exact hlt)
      have g1 : (k : Int) < (n : Int) := by omega
      have hup := fun h => HG.out.up h k (by rw [HN.out]; exact hlt)
      have hdn := fun h => HG.out.dn h k (by rw [HN.out]; exact hlt)
      have hz := HG.out.zero k (by rw [HN.out]; exact hlt)
      generalize ws.getD k 0 = y at *
      generalize V.getD k 0 = x at *
      by_cases hy : y = 0
      · obtain rfl := hz hy
        subst hy
        clear hup hdn hz
        by_cases h0 : 0 ≤ T
        · by_cases h1 : T ≤ 0
          · go_wp2_with fail
            go_round
            case rel => exact ⟨k + 1, by go_num, by omega⟩
            case measure => simp [intOf]; omega
          · go_wp2_with fail
            go_round
            case rel => exact ⟨k + 1, by go_num, by omega⟩
            case measure => simp [intOf]; omega
        · go_wp2_with fail
          go_round
          case rel => exact ⟨k + 1, by go_num, by omega⟩
          case measure => simp [intOf]; omega
      · have hy2 : decide (y = 0) = false := by simpa using hy
        clear hz
        by_cases h0 : 0 ≤ T
        · have hup1 := (hup h0).1
          have a1 : decide (x < 0) = false := by simpa using hup1
          by_cases h1 : T ≤ 0
          · have hdn1 := (hdn h1).2
            obtain rfl : x = 0 := by omega
            clear hup hdn
            go_wp2_with fail
            go_round
            case rel => exact ⟨k + 1, by go_num, by omega⟩
            case measure => simp [intOf]; omega
          · clear hup hdn
            go_wp2_with fail
            go_round
            case rel => exact ⟨k + 1, by go_num, by omega⟩
            case measure => simp [intOf]; omega
        · have hdn1 := (hdn (by omega)).2
          have a1 : decide (0 < x) = false := by simpa using hdn1
          clear hup hdn
          go_wp2_with fail
          go_round
          case rel => exact ⟨k + 1, by go_num, by omega⟩
          case measure => simp [intOf]; omega
    · obtain rfl : k = n := by omega
      go_wp2_with fail
      go_ret
      exact ⟨rfl, HB.out⟩
theorem whole_walk (T : Int) (A : Option Addr) (ws : List Int) (c : Nat) (w : World) (hT : I64 T) (hx : ∀ x ∈ ws, I64 x) (hr : Row w 0 A (ints ws)) (hl : ws.length * 8 ≤ 140737488351232) :
    Calls Try.prog 8 #[.int .i64 T, .slice A ws.length c] w fun e w' => e = .returned (.bool true) ∧ Below w.heap.size w w' := by
  by_cases h : 70 < ws.length
  · exact whole_out T A ws.length c w h (by omega)
  · by_cases hE : outE T ws = 0
    · exact whole_ok T A ws c w hT hx hr (by omega) hE
    · exact whole_bad T A ws c w hT hx hr (by omega) hE
end Go.Proofs.Ytejkamgidhpcjaa.PO
