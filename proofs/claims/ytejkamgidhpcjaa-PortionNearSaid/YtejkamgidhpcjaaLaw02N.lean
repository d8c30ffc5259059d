/- The walk of the law PortionNear. -/
import Derived.Test.YtejkamgidhpcjaaLaw02W
import Derived.Deep.QuietTactic
import Derived.BigQuiet
namespace Go.Proofs.Ytejkamgidhpcjaa.PO
open Go.RowKit Go.Proofs.Ytejkamgidhpcjaa.Cents Go.Proofs.Ytejkamgidhpcjaa.CO
set_option linter.unusedVariables false
set_option linter.unusedSimpArgs false

theorem near_out (T : Int) (A : Option Addr) (n c : Nat) (w : World) (h : 70 < n) (hn : n ≤ 140737488351232) :
    Calls Try.prog 9 #[.int .i64 T, .slice A n c] w fun e w' => e = .returned (.bool true) ∧ Below w.heap.size w w' := by
  have hn2 : decide ((70 : Int) < (n : Int)) = true := by simp; omega
  clear h
  go_enter Try.func9, Try.ntmps9
  go_wp2_with fail
  refine (awake02 _).mono ?_
  rintro e w1 ⟨rfl, hb⟩
  have HB := Lib.hid hb
  clear hb
  go_wp2_with fail
  go_ret
  exact ⟨rfl, HB.out⟩
theorem near_bad (T : Int) (A : Option Addr) (ws : List Int) (c : Nat) (w : World) (hT : I64 T) (hx : ∀ x ∈ ws, I64 x) (hr : Row w 0 A (ints ws)) (hl : ws.length ≤ 70) (hE : outE T ws ≠ 0) :
    Calls Try.prog 9 #[.int .i64 T, .slice A ws.length c] w fun e w' => e = .returned (.bool true) ∧ Below w.heap.size w w' := by
  have HR := Lib.hid hr
  have HO := Lib.hid (fun w1 (h : Row w1 0 A (ints ws)) => out_is T A ws c w1 hT hx h (by omega) [] (outE T ws) ⟨outV_bad hE, rfl⟩)
  have HS := Lib.hid (fun w1 (h : Row w1 0 A (ints ws)) => sum_is A ws c w1 _ _ hx h (by omega) ⟨rfl, rfl⟩)
  generalize outE T ws = E at *
  generalize sumN ws.sum = x1 at *
  generalize sumE ws.sum = x2 at *
  generalize ws.length = n at *
  have hb0 : (E != 0) = true := by simpa using hE
  have hn2 : decide ((70 : Int) < (n : Int)) = false := by simp; omega
  clear hT hx hr hE
  go_enter Try.func9, Try.ntmps9
  go_wp2_with fail
  refine (awake02 _).mono ?_
  rintro e w1 ⟨rfl, hb⟩
  have HB := Lib.hid hb
  clear hb
  go_wp2_with fail
  refine (HO.out _ (HR.out.below HB.out)).mono ?_
  rintro e w2 ⟨B, d, rfl, _, _, hb⟩
  have HB := Lib.hid (below_in HB.out hb)
  clear hb
  go_wp2_with fail
  refine (HS.out _ (HR.out.below HB.out)).mono ?_
  rintro e w3 ⟨rfl, hb⟩
  have HB := Lib.hid (below_in HB.out hb)
  clear hb
  go_wp2_with fail
  go_ret
  exact ⟨rfl, HB.out⟩
theorem row_drew {w : World} {A : Option Addr} {xs : List Value} (h : Row w 0 A xs) : Row w.drew 0 A xs := h.below (Below.drew (Below.refl _ _))
theorem row_drewN {w : World} {A : Option Addr} {xs : List Value} (h : Row w 0 A xs) (q : Nat) : Row (w.drewN q) 0 A xs := h.below (Quiet.below ⟨q, rfl⟩)
set_option maxHeartbeats 2000000 in
set_option maxRecDepth 100000 in
theorem near_ok (T : Int) (A : Option Addr) (ws : List Int) (c : Nat) (w : World) (hT : I64 T) (hx : ∀ x ∈ ws, I64 x) (hr : Row w 0 A (ints ws)) (hl : ws.length ≤ 70) (hE : outE T ws = 0) :
    Calls Try.prog 9 #[.int .i64 T, .slice A ws.length c] w fun e w' => e = .returned (.bool true) ∧ Below w.heap.size w w' := by
  have HR := Lib.hid hr
  have HX := Lib.hid hx
  have HIT := Lib.hid hT
  have hG := outV_good hE
  obtain ⟨_, hpos, hS1, hSI, _⟩ := wE_ok (outE_ok hE).1
  have hTm := (outE_ok hE).2
  have HO := Lib.hid (fun w1 (h : Row w1 0 A (ints ws)) => out_is T A ws c w1 hT hx h (by omega) (outV T ws) 0 ⟨rfl, hE⟩)
  have HS := Lib.hid (fun w1 (h : Row w1 0 A (ints ws)) => sum_is A ws c w1 ws.sum 0 hx h (by omega) (by unfold sumN sumE; rw [if_pos hSI, if_pos hSI]; exact ⟨rfl, rfl⟩))
  have HWL := Lib.hid (weight_le hpos)
  have HVI := Lib.hid (hG.I hT)
  generalize outV T ws = V at *
  generalize ws.sum = S at *
  have HSI := Lib.hid hSI
  have HG := Lib.hid hG
  obtain ⟨n, hn⟩ : ∃ n, ws.length = n := ⟨_, rfl⟩
  have hv := hG.len
  rw [hn] at hv
  have HN := Lib.hid hn
  have HVN := Lib.hid hv
  rw [hn] at HO HS hl ⊢
  have hn2 : decide ((70 : Int) < (n : Int)) = false := by simp; omega
  have hT1 := hT.1
  have hT2 := hT.2
  clear hT hx hr hE hG hn hv hpos hSI
  go_enter Try.func9, Try.ntmps9
  go_wp2_with fail
  refine (awake02 _).mono ?_
  rintro e w1 ⟨rfl, hb⟩
  have HB := Lib.hid hb
  clear hb
  go_wp2_with fail
  refine (HO.out _ (HR.out.below HB.out)).mono ?_
  rintro e w2 ⟨B, d, rfl, hrow, _, hb⟩
  rw [HVN.out]
  have HB := Lib.hid (below_in HB.out hb)
  have HRV := Lib.hid (hrow.weak (Nat.zero_le _))
  clear hb hrow
  go_wp2_with fail
  refine (HS.out _ (HR.out.below HB.out)).mono ?_
  rintro e w3 ⟨rfl, hb⟩
  have HB := Lib.hid (below_in HB.out hb)
  have HRV := Lib.hid (HRV.out.below hb)
  clear hb
  go_wp2_with fail
  go_loopw [50] (fun i wr => ∃ k : Nat, i = .int .i64 (k : Int) ∧ k ≤ n ∧ Below w.heap.size w wr ∧ Row wr 0 B (ints V)) (fun i _ => n - (intOf i).toNat)
  case atStart => exact ⟨0, rfl, by omega, HB.out, HRV.out⟩
  case round =>
    clear HB HRV
    obtain ⟨k, rfl, hk, hb, hrv⟩ := hrel
    have HB := Lib.hid hb
    have HRV := Lib.hid hrv
    clear hb hrv
    have g0 : (0 : Int) ≤ (k : Int) := Int.natCast_nonneg _
    by_cases hlt : k < n
    · obtain ⟨ad, rfl, c0⟩ := int_cell (HR.out.below HB.out) (j := k) (by rw [HN.out]; exact hlt)
      obtain ⟨bd, rfl, _⟩ := int_cell HRV.out (j := k) (by rw [HVN.out]; exact hlt)
      have hkl : k < ws.length := by rw [HN.out]; exact hlt
      have g1 : (k : Int) < (n : Int) := by omega
      have hwl := HWL.out k hkl
      have hxm : I64 (ws.getD k 0) := by
        rw [List.getD_eq_getElem?_getD, List.getElem?_eq_getElem hkl]; exact HX.out _ (List.getElem_mem _)
      have hxv : I64 (V.getD k 0) := by
        have hkv : k < V.length := by rw [HVN.out]; exact hlt
        rw [List.getD_eq_getElem?_getD, List.getElem?_eq_getElem hkv]; exact HVI.out _ (List.getElem_mem _)
      have hpo := part_ok (a := T) (p := ws.getD k 0) (m := S) HIT.out hS1 hwl.1 hwl.2
      have hro := rest_ok (a := T) (p := ws.getD k 0) (m := S) hS1 hwl.1
      have hnear := HG.out.near k hkl
      have hmono := fun h m (hm : m < ws.length) hlt => HG.out.mono h k m hkl hm hlt
      have hup := fun h => (HG.out.up h k hkl).1
      have hdn := fun h => (HG.out.dn h k hkl).1
      obtain ⟨y, hy⟩ : ∃ y, ws.getD k 0 = y := ⟨_, rfl⟩
      obtain ⟨x, hxk⟩ : ∃ x, V.getD k 0 = x := ⟨_, rfl⟩
      rw [hy] at c0 hpo hro hnear hxm hmono
      rw [hxk] at hnear hxv hmono hup hdn
      generalize T * y / S = lo at hpo hnear
      generalize T * y % S = re at hro hnear
      have HXK := Lib.hid hxk
      have HXM := Lib.hid hxm
      have HPO := Lib.hid hpo
      have HRO := Lib.hid hro
      have HMO := Lib.hid hmono
      have hx1 : -9223372036854775808 < x ∨ x = lo := by
        unfold I64 at hxv
        rcases Int.le_total 0 T with e | e
        · have := hup e; omega
        · have := hdn e; omega
      have hxv1 := hxv.1
      have hxv2 := hxv.2
      clear hpo hro hxm hmono hwl hy hxk hup hdn hkl hxv
      go_wp2_with fail
      refine (part_is T y S lo 0 _ HIT.out HXM.out HSI.out HPO.out).mono ?_
      rintro e w4 ⟨rfl, q4, rfl⟩
      go_wp2_with fail
      refine (rest_is T y S re 0 _ HIT.out HXM.out HSI.out HRO.out).mono ?_
      rintro e w5 ⟨rfl, q5, rfl⟩
      have HB2 := Lib.hid (below_in (below_in HB.out (Quiet.below ⟨q4, rfl⟩)) (Quiet.below ⟨q5, rfl⟩))
      have HRV2 := Lib.hid (row_drewN (row_drewN HRV.out q4) q5)
      generalize (wr.drewN q4).drewN q5 = wo at HB2 HRV2 ⊢
      have c1 : wo.cell? (bd.add k) = some (.int .i64 x) := by
        obtain ⟨bd', e, h⟩ := int_cell HRV2.out (j := k) (by rw [HVN.out]; exact hlt)
        rw [HXK.out] at h
        injection e with e
        rw [e]; exact h
      clear HB HRV c0
      rcases hnear with hne | ⟨hne, hre⟩
      · subst hne
        go_wp2_with fail
        go_loopw [98] (fun i wr => ∃ m : Nat, i = .int .i64 (m : Int) ∧ m ≤ n ∧ Below w.heap.size w wr ∧ Row wr 0 (some bd) (ints V)) (fun i _ => n - (intOf i).toNat)
        case atStart => exact ⟨0, rfl, by omega, HB2.out, HRV2.out⟩
        case round =>
          clear HB2 HRV2 c1
          obtain ⟨m, rfl, hm, hb, hrv⟩ := hrel
          have HB3 := Lib.hid hb
          have HRV3 := Lib.hid hrv
          clear hb hrv
          have g2 : (0 : Int) ≤ (m : Int) := Int.natCast_nonneg _
          by_cases hlm : m < n
          · obtain ⟨ad', e1, c2⟩ := int_cell (HR.out.below HB3.out) (j := m) (by rw [HN.out]; exact hlm)
            cases e1
            obtain ⟨bd', e1, c3⟩ := int_cell HRV3.out (j := k) (by rw [HVN.out]; exact hlt)
            cases e1
            obtain ⟨bd', e1, c4⟩ := int_cell HRV3.out (j := m) (by rw [HVN.out]; exact hlm)
            cases e1
            rw [HXK.out] at c3
            have g3 : (m : Int) < (n : Int) := by omega
            have hmo := fun h e => HMO.out h m (by rw [HN.out]; exact hlm) e
            generalize ws.getD m 0 = z at *
            generalize V.getD m 0 = v at *
            by_cases h0 : 0 ≤ T
            · by_cases hyz : z < y
              · have hle := hmo h0 hyz
                clear hmo
                go_wp2_with fail
                go_quiet (fail)
                go_wp2_with fail
                go_roundw
                case rel => exact ⟨m + 1, by go_num, by omega, below_in HB3.out (Quiet.below ⟨nq, rfl⟩), row_drewN HRV3.out nq⟩
                case measure => simp only [intOf]; omega
              · clear hmo
                have d1 : decide (z < y) = false := by simpa using hyz
                have d2 : y ≤ z := by omega
                go_wp2_with fail
                go_quiet (fail)
                go_wp2_with fail
                go_roundw
                case rel => exact ⟨m + 1, by go_num, by omega, below_in HB3.out (Quiet.below ⟨nq, rfl⟩), row_drewN HRV3.out nq⟩
                case measure => simp only [intOf]; omega
            · clear hmo
              have d1 : decide (0 ≤ T) = false := by simpa using h0
              have d2 : T < 0 := by omega
              go_wp2_with fail
              go_quiet (fail)
              go_wp2_with fail
              go_roundw
              case rel => exact ⟨m + 1, by go_num, by omega, below_in HB3.out (Quiet.below ⟨nq, rfl⟩), row_drewN HRV3.out nq⟩
              case measure => simp only [intOf]; omega
          · obtain rfl : m = n := by omega
            go_wp2_with fail
            go_roundw
            case rel => exact ⟨k + 1, by go_num, by omega, HB3.out, HRV3.out⟩
            case measure => simp only [intOf]; omega
      · have hx3 : x = lo + 1 := by omega
        subst hx3
        have hre2 : (re == 0) = false := by simpa using hre
        have hxl : (lo + 1 != lo) = true := by simp <;> omega
        have hxl2 : (lo + 1 == lo) = false := by simp <;> omega
        have hx2 : -9223372036854775808 ≤ lo := by omega
        clear hre hne
        go_wp2_with fail
        go_loopw [98] (fun i wr => ∃ m : Nat, i = .int .i64 (m : Int) ∧ m ≤ n ∧ Below w.heap.size w wr ∧ Row wr 0 (some bd) (ints V)) (fun i _ => n - (intOf i).toNat)
        case atStart => exact ⟨0, rfl, by omega, HB2.out, HRV2.out⟩
        case round =>
          clear HB2 HRV2 c1
          obtain ⟨m, rfl, hm, hb, hrv⟩ := hrel
          have HB3 := Lib.hid hb
          have HRV3 := Lib.hid hrv
          clear hb hrv
          have g2 : (0 : Int) ≤ (m : Int) := Int.natCast_nonneg _
          by_cases hlm : m < n
          · obtain ⟨ad', e1, c2⟩ := int_cell (HR.out.below HB3.out) (j := m) (by rw [HN.out]; exact hlm)
            cases e1
            obtain ⟨bd', e1, c3⟩ := int_cell HRV3.out (j := k) (by rw [HVN.out]; exact hlt)
            cases e1
            obtain ⟨bd', e1, c4⟩ := int_cell HRV3.out (j := m) (by rw [HVN.out]; exact hlm)
            cases e1
            rw [HXK.out] at c3
            have g3 : (m : Int) < (n : Int) := by omega
            have hmo := fun h e => HMO.out h m (by rw [HN.out]; exact hlm) e
            generalize ws.getD m 0 = z at *
            generalize V.getD m 0 = v at *
            by_cases h0 : 0 ≤ T
            · by_cases hyz : z < y
              · have hle := hmo h0 hyz
                clear hmo
                go_wp2_with fail
                go_quiet (fail)
                go_wp2_with fail
                go_roundw
                case rel => exact ⟨m + 1, by go_num, by omega, below_in HB3.out (Quiet.below ⟨nq, rfl⟩), row_drewN HRV3.out nq⟩
                case measure => simp only [intOf]; omega
              · clear hmo
                have d1 : decide (z < y) = false := by simpa using hyz
                have d2 : y ≤ z := by omega
                go_wp2_with fail
                go_quiet (fail)
                go_wp2_with fail
                go_roundw
                case rel => exact ⟨m + 1, by go_num, by omega, below_in HB3.out (Quiet.below ⟨nq, rfl⟩), row_drewN HRV3.out nq⟩
                case measure => simp only [intOf]; omega
            · clear hmo
              have d1 : decide (0 ≤ T) = false := by simpa using h0
              have d2 : T < 0 := by omega
              go_wp2_with fail
              go_quiet (fail)
              go_wp2_with fail
              go_roundw
              case rel => exact ⟨m + 1, by go_num, by omega, below_in HB3.out (Quiet.below ⟨nq, rfl⟩), row_drewN HRV3.out nq⟩
              case measure => simp only [intOf]; omega
          · obtain rfl : m = n := by omega
            go_wp2_with fail
            go_roundw
            case rel => exact ⟨k + 1, by go_num, by omega, HB3.out, HRV3.out⟩
            case measure => simp only [intOf]; omega
    · obtain rfl : k = n := by omega
      go_wp2_with fail
      go_ret
      exact ⟨rfl, HB.out⟩
theorem near_walk (T : Int) (A : Option Addr) (ws : List Int) (c : Nat) (w : World) (hT : I64 T) (hx : ∀ x ∈ ws, I64 x) (hr : Row w 0 A (ints ws)) (hl : ws.length * 8 ≤ 140737488351232) :
    Calls Try.prog 9 #[.int .i64 T, .slice A ws.length c] w fun e w' => e = .returned (.bool true) ∧ Below w.heap.size w w' := by
  by_cases h : 70 < ws.length
  · exact near_out T A ws.length c w h (by omega)
  · by_cases hE : outE T ws = 0
    · exact near_ok T A ws c w hT hx hr (by omega) hE
    · exact near_bad T A ws c w hT hx hr (by omega) hE
end Go.Proofs.Ytejkamgidhpcjaa.PO
