/- The walk of the law AllotNone. -/
import Derived.Test.YtkceeifhnohioaaLaw13A
namespace Go.Proofs.Ytkceeifhnohioaa.PO
open Go.RowKit Go.Proofs.Ytkceeifhnohioaa.Cents Go.Proofs.Ytkceeifhnohioaa.CO Go.Proofs.Ytkceeifhnohioaa.Exact
set_option linter.unusedVariables false
set_option linter.unusedSimpArgs false

theorem nL_out1 (A W : Option Addr) (n m c d : Nat) (p : Int) (w : World) (h : 64 < n) (hn : n ≤ 140737488351232) (hm : m ≤ 140737488351232) :
    Calls Try.prog 5 #[.slice A n c, .slice W m d, .int .i64 p] w fun e w' => e = .returned (.bool true) ∧ Below w.heap.size w w' := by
  have h2 : (64 : Int) < (n : Int) := by omega
  go_enter Try.func5, Try.ntmps5
  go_wp2_with fail
  refine (awake13 _).mono ?_
  rintro e w1 ⟨rfl, hb⟩
  have HB := Lib.hid hb
  clear hb
  go_wp2_with fail
  go_ret
  exact ⟨rfl, HB.out⟩
theorem nL_out2 (A W : Option Addr) (n m c d : Nat) (p : Int) (w : World) (h : ¬ 64 < n) (h' : 70 < m) (hn : n ≤ 140737488351232) (hm : m ≤ 140737488351232) :
    Calls Try.prog 5 #[.slice A n c, .slice W m d, .int .i64 p] w fun e w' => e = .returned (.bool true) ∧ Below w.heap.size w w' := by
  have h2 : ¬ (64 : Int) < (n : Int) := by omega
  have h3 : (70 : Int) < (m : Int) := by omega
  go_enter Try.func5, Try.ntmps5
  go_wp2_with fail
  refine (awake13 _).mono ?_
  rintro e w1 ⟨rfl, hb⟩
  have HB := Lib.hid hb
  clear hb
  go_wp2_with fail
  go_ret
  exact ⟨rfl, HB.out⟩
theorem nL_less (A W : Option Addr) (al wh : List Int) (c d : Nat) (p : Int) (w : World) (hx : ∀ x ∈ al, I64 x) (hr : Row w 0 A (ints al)) (hrw : Row w 0 W (ints wh)) (hp : I64 p) (hl : al.length ≤ 64) (hm : wh.length ≤ 70) (h : ∃ i, i < al.length ∧ al.getD i 0 < 1) :
    Calls Try.prog 5 #[.slice A al.length c, .slice W wh.length d, .int .i64 p] w fun e w' => e = .returned (.bool true) ∧ Below w.heap.size w w' := by
  have HR := Lib.hid hr
  have HX := Lib.hid h
  obtain ⟨n, hn⟩ : ∃ n, al.length = n := ⟨_, rfl⟩
  have HN := Lib.hid hn
  rw [hn] at hl ⊢
  generalize wh.length = m at *
  have h2 : ¬ (64 : Int) < (n : Int) := by omega
  have h3 : ¬ (70 : Int) < (m : Int) := by omega
  clear hx hr hrw hp h hn
  go_enter Try.func5, Try.ntmps5
  go_wp2_with fail
  refine (awake13 _).mono ?_
  rintro e w1 ⟨rfl, hb⟩
  have HB := Lib.hid hb
  clear hb
  go_wp2_with fail
  go_loop [31] (fun i => ∃ k : Nat, i = .int .i64 (k : Int) ∧ k ≤ n ∧ ∀ i, i < k → ¬ al.getD i 0 < 1) (fun i => n - (intOf i).toNat)
  case atStart => exact ⟨0, rfl, by omega, fun i hi => by omega⟩
  case round =>
    obtain ⟨k, rfl, hk, hno⟩ := hrel
    have HNO := Lib.hid hno
    clear hno
    have g0 : (0 : Int) ≤ (k : Int) := Int.natCast_nonneg _
    by_cases hlt : k < n
    · obtain ⟨ad, rfl, c0⟩ := int_cell (HR.out.below HB.out) (j := k) (by rw [HN.out]; exact hlt)
      have g1 : (k : Int) < (n : Int) := by omega
      by_cases hy : al.getD k 0 < 1
      · generalize al.getD k 0 = y at *
        go_wp2_with fail
        go_ret
        exact ⟨rfl, HB.out⟩
      · have HY := Lib.hid (show ∀ i, i < k + 1 → ¬ al.getD i 0 < 1 from fun i hi => by
          rcases Nat.lt_or_ge i k with q | q
          · exact HNO.out i q
          · rw [show i = k by omega]; exact hy)
        generalize al.getD k 0 = y at *
        go_wp2_with fail
        go_round
        case rel => exact ⟨k + 1, by go_num, by omega, HY.out⟩
        case measure => simp [intOf]; omega
    · exfalso
      obtain ⟨i, hi, h1⟩ := HX.out
      rw [HN.out] at hi
      exact HNO.out i (by omega) h1
set_option maxHeartbeats 1000000 in
set_option maxRecDepth 100000 in
theorem nL_over_p (A W : Option Addr) (al wh : List Int) (c d : Nat) (p : Int) (w : World) (hx : ∀ x ∈ al, I64 x) (hr : Row w 0 A (ints al)) (hrw : Row w 0 W (ints wh)) (hp : I64 p) (hl : al.length ≤ 64) (hm : wh.length ≤ 70) (h1 : ∀ x ∈ al, 1 ≤ x) (h0 : 0 ≤ p) (hS : ¬ I64 al.sum) :
    Calls Try.prog 5 #[.slice A al.length c, .slice W wh.length d, .int .i64 p] w fun e w' => e = .returned (.bool true) ∧ Below w.heap.size w w' := by
  have HR := Lib.hid hr
  have HRW := Lib.hid hrw
  have H1 := Lib.hid (fun i (hi : i < al.length) => show 1 ≤ al.getD i 0 by rw [List.getD_eq_getElem?_getD, List.getElem?_eq_getElem hi]; exact h1 _ (List.getElem_mem _))
  have H7 := Lib.hid (fun w1 => all_is p (some ⟨w1.heap.size, 0, none⟩) [7] 1 (w1.alloc (.cells (ints [7]).toArray 2)) hp (small (by decide)) (litI w1 [7]) (by decide) [p] 0 ⟨(all_seven h0).2, (all_seven h0).1⟩)
  have HS := Lib.hid (fun w1 (h : Row w1 0 A (ints al)) => sum_is A al c w1 0 3 hx h (by omega) ⟨by unfold sumN; rw [if_neg hS], by unfold sumE; rw [if_neg hS]⟩)
  clear hS
  obtain ⟨n, hn⟩ : ∃ n, al.length = n := ⟨_, rfl⟩
  have HN := Lib.hid hn
  rw [hn] at hl HS ⊢
  generalize wh.length = m at *
  have h2 : ¬ (64 : Int) < (n : Int) := by omega
  have h3 : ¬ (70 : Int) < (m : Int) := by omega
  clear hx hr hrw hp hn h1
  go_enter Try.func5, Try.ntmps5
  go_wp2_with fail
  refine (awake13 _).mono ?_
  rintro e w1 ⟨rfl, hb⟩
  have HB := Lib.hid hb
  clear hb
  go_wp2_with fail
  go_loop [31] (fun i => ∃ k : Nat, i = .int .i64 (k : Int) ∧ k ≤ n) (fun i => n - (intOf i).toNat)
  case atStart => exact ⟨0, rfl, by omega⟩
  case round =>
    obtain ⟨k, rfl, hk⟩ := hrel
    have g0 : (0 : Int) ≤ (k : Int) := Int.natCast_nonneg _
    by_cases hlt : k < n
    · obtain ⟨ad, rfl, c0⟩ := int_cell (HR.out.below HB.out) (j := k) (by rw [HN.out]; exact hlt)
      have g1 : (k : Int) < (n : Int) := by omega
      have hy := H1.out k (by rw [HN.out]; exact hlt)
      generalize al.getD k 0 = y at *
      have hy2 : ¬ y < 1 := by omega
      go_wp2_with fail
      go_round
      case rel => exact ⟨k + 1, by go_num, by omega⟩
      case measure => simp [intOf]; omega
    · obtain rfl : k = n := by omega
      go_wp2_with fail
      refine (H7.out _).mono ?_
      rintro e w2 ⟨A7, c7, rfl, hr7, hc7, hb⟩
      have HB := Lib.hid (HB.out.alloc HB.out.size (.cells (ints [7]).toArray 2))
      have HB := Lib.hid (HB.out.trans (hb.mono (by have := HB.out.size; simp at this ⊢ <;> omega)))
      have HR7 := Lib.hid (hr7.weak (Nat.zero_le _))
      clear hb hr7 hc7
      go_wp2_with fail
      refine (same_any A7 (some ⟨w2.heap.size, 0, none⟩) [p] [p] c7 1 _ (HR7.out.below (alloc1 _ (.cells (ints [p]).toArray 2))) (litI w2 [p]) (by simp) (by simp) true (by simp)).mono ?_
      rintro e w3 ⟨rfl, hb⟩
      have HB := Lib.hid (HB.out.alloc HB.out.size (.cells (ints [p]).toArray 2))
      have HB := Lib.hid (HB.out.trans (hb.mono (by have := HB.out.size; simp at this ⊢ <;> omega)))
      clear hb HR7
      go_wp2_with fail
      refine (HS.out _ (HR.out.below HB.out)).mono ?_
      rintro e w4 ⟨rfl, hb⟩
      have HB := Lib.hid (below_inA HB.out hb)
      clear hb
      go_wp2_with fail
      go_ret
      exact ⟨rfl, HB.out⟩
set_option maxHeartbeats 1000000 in
set_option maxRecDepth 100000 in
theorem nL_none_p (A W : Option Addr) (al wh : List Int) (c d : Nat) (p : Int) (w : World) (hx : ∀ x ∈ al, I64 x) (hr : Row w 0 A (ints al)) (hrw : Row w 0 W (ints wh)) (hp : I64 p) (hl : al.length ≤ 64) (hm : wh.length ≤ 70) (h1 : ∀ x ∈ al, 1 ≤ x) (h0 : 0 ≤ p) (h00 : al = []) :
    Calls Try.prog 5 #[.slice A al.length c, .slice W wh.length d, .int .i64 p] w fun e w' => e = .returned (.bool true) ∧ Below w.heap.size w w' := by
  have HR := Lib.hid hr
  have HRW := Lib.hid hrw
  have H1 := Lib.hid (fun i (hi : i < al.length) => show 1 ≤ al.getD i 0 by rw [List.getD_eq_getElem?_getD, List.getElem?_eq_getElem hi]; exact h1 _ (List.getElem_mem _))
  have H7 := Lib.hid (fun w1 => all_is p (some ⟨w1.heap.size, 0, none⟩) [7] 1 (w1.alloc (.cells (ints [7]).toArray 2)) hp (small (by decide)) (litI w1 [7]) (by decide) [p] 0 ⟨(all_seven h0).2, (all_seven h0).1⟩)
  have HS := Lib.hid (fun w1 (h : Row w1 0 A (ints al)) => sum_is A al c w1 0 0 hx h (by omega) (by subst h00; decide))
  have h00 : al.length = 0 := by rw [h00]; rfl
  obtain ⟨n, hn⟩ : ∃ n, al.length = n := ⟨_, rfl⟩
  have HN := Lib.hid hn
  rw [hn] at hl HS h00 ⊢
  subst h00
  generalize wh.length = m at *
  have h2 : ¬ (64 : Int) < (0 : Int) := by omega
  have h3 : ¬ (70 : Int) < (m : Int) := by omega
  clear hx hr hrw hp hn h1
  go_enter Try.func5, Try.ntmps5
  go_wp2_with fail
  refine (awake13 _).mono ?_
  rintro e w1 ⟨rfl, hb⟩
  have HB := Lib.hid hb
  clear hb
  go_wp2_with fail
  go_loop [31] (fun i => ∃ k : Nat, i = .int .i64 (k : Int) ∧ k ≤ 0) (fun i => 0 - (intOf i).toNat)
  case atStart => exact ⟨0, rfl, by omega⟩
  case round =>
    obtain ⟨k, rfl, hk⟩ := hrel
    have g0 : (0 : Int) ≤ (k : Int) := Int.natCast_nonneg _
    by_cases hlt : k < 0
    · omega
    · obtain rfl : k = 0 := by omega
      go_wp2_with fail
      refine (H7.out _).mono ?_
      rintro e w2 ⟨A7, c7, rfl, hr7, hc7, hb⟩
      have HB := Lib.hid (HB.out.alloc HB.out.size (.cells (ints [7]).toArray 2))
      have HB := Lib.hid (HB.out.trans (hb.mono (by have := HB.out.size; simp at this ⊢ <;> omega)))
      have HR7 := Lib.hid (hr7.weak (Nat.zero_le _))
      clear hb hr7 hc7
      go_wp2_with fail
      refine (same_any A7 (some ⟨w2.heap.size, 0, none⟩) [p] [p] c7 1 _ (HR7.out.below (alloc1 _ (.cells (ints [p]).toArray 2))) (litI w2 [p]) (by simp) (by simp) true (by simp)).mono ?_
      rintro e w3 ⟨rfl, hb⟩
      have HB := Lib.hid (HB.out.alloc HB.out.size (.cells (ints [p]).toArray 2))
      have HB := Lib.hid (HB.out.trans (hb.mono (by have := HB.out.size; simp at this ⊢ <;> omega)))
      clear hb HR7
      go_wp2_with fail
      refine (HS.out _ (HR.out.below HB.out)).mono ?_
      rintro e w4 ⟨rfl, hb⟩
      have HB := Lib.hid (below_inA HB.out hb)
      clear hb
      go_wp2_with fail
      go_ret
      exact ⟨rfl, HB.out⟩
set_option maxHeartbeats 1000000 in
set_option maxRecDepth 100000 in
theorem nL_keep_p (A W : Option Addr) (al wh : List Int) (c d : Nat) (p : Int) (w : World) (hx : ∀ x ∈ al, I64 x) (hr : Row w 0 A (ints al)) (hrw : Row w 0 W (ints wh)) (hp : I64 p) (hl : al.length ≤ 64) (hm : wh.length ≤ 70) (h1 : ∀ x ∈ al, 1 ≤ x) (h0 : 0 ≤ p) (hne : al ≠ []) (hS : I64 al.sum) (hE : someE al.sum al wh = 0) :
    Calls Try.prog 5 #[.slice A al.length c, .slice W wh.length d, .int .i64 p] w fun e w' => e = .returned (.bool true) ∧ Below w.heap.size w w' := by
  have HR := Lib.hid hr
  have HRW := Lib.hid hrw
  have H1 := Lib.hid (fun i (hi : i < al.length) => show 1 ≤ al.getD i 0 by rw [List.getD_eq_getElem?_getD, List.getElem?_eq_getElem hi]; exact h1 _ (List.getElem_mem _))
  have H7 := Lib.hid (fun w1 => all_is p (some ⟨w1.heap.size, 0, none⟩) [7] 1 (w1.alloc (.cells (ints [7]).toArray 2)) hp (small (by decide)) (litI w1 [7]) (by decide) [p] 0 ⟨(all_seven h0).2, (all_seven h0).1⟩)
  have HS := Lib.hid (fun w1 (h : Row w1 0 A (ints al)) => sum_is A al c w1 al.sum 0 hx h (by omega) ⟨by unfold sumN; rw [if_pos hS], by unfold sumE; rw [if_pos hS]⟩)
  have hself := all_self h1 hne hl hS
  have HAL := Lib.hid (fun w1 (h : Row w1 0 A (ints al)) => all_is al.sum A al c w1 hS hx h (by omega) al 0 ⟨hself.2, hself.1⟩)
  have HDI := Lib.hid (fun w1 (h : Row w1 0 A (ints al)) => disc_is al.sum A al c w1 hS (by omega) hx h 0 0 (by rw [Int.sub_self]; decide))
  have HSM := Lib.hid (fun B1 d1 w1 (h1 : Row w1 0 B1 (ints al)) (h2 : Row w1 0 A (ints al)) => same_any B1 A al al d1 c w1 h1 h2 (by omega) (by omega) true (by simp))
  have HSO := Lib.hid (fun w1 (h : Row w1 0 A (ints al)) (h' : Row w1 0 W (ints wh)) => some_is al.sum A W al wh c d w1 hS hx h h' (by omega) (by omega) al 0 ⟨some_self hS hE, hE⟩)
  clear hself hS hE
  have hpos : 1 ≤ al.length := List.length_pos_iff.2 hne
  generalize al.sum = S at *
  obtain ⟨n, hn⟩ : ∃ n, al.length = n := ⟨_, rfl⟩
  have HN := Lib.hid hn
  rw [hn] at hl HS HAL HDI HSM HSO hpos ⊢
  generalize wh.length = m at *
  have h2 : ¬ (64 : Int) < (n : Int) := by omega
  have h3 : ¬ (70 : Int) < (m : Int) := by omega
  have h4 : ¬ (n : Int) = 0 := by omega
  have h5 : ((n : Int) == 0) = false := by simp; omega
  clear hx hr hrw hp hn h1 hne
  go_enter Try.func5, Try.ntmps5
  go_wp2_with fail
  refine (awake13 _).mono ?_
  rintro e w1 ⟨rfl, hb⟩
  have HB := Lib.hid hb
  clear hb
  go_wp2_with fail
  go_loop [31] (fun i => ∃ k : Nat, i = .int .i64 (k : Int) ∧ k ≤ n) (fun i => n - (intOf i).toNat)
  case atStart => exact ⟨0, rfl, by omega⟩
  case round =>
    obtain ⟨k, rfl, hk⟩ := hrel
    have g0 : (0 : Int) ≤ (k : Int) := Int.natCast_nonneg _
    by_cases hlt : k < n
    · obtain ⟨ad, rfl, c0⟩ := int_cell (HR.out.below HB.out) (j := k) (by rw [HN.out]; exact hlt)
      have g1 : (k : Int) < (n : Int) := by omega
      have hy := H1.out k (by rw [HN.out]; exact hlt)
      generalize al.getD k 0 = y at *
      have hy2 : ¬ y < 1 := by omega
      go_wp2_with fail
      go_round
      case rel => exact ⟨k + 1, by go_num, by omega⟩
      case measure => simp [intOf]; omega
    · obtain rfl : k = n := by omega
      go_wp2_with fail
      refine (H7.out _).mono ?_
      rintro e w2 ⟨A7, c7, rfl, hr7, hc7, hb⟩
      have HB := Lib.hid (HB.out.alloc HB.out.size (.cells (ints [7]).toArray 2))
      have HB := Lib.hid (HB.out.trans (hb.mono (by have := HB.out.size; simp at this ⊢ <;> omega)))
      have HR7 := Lib.hid (hr7.weak (Nat.zero_le _))
      clear hb hr7 hc7
      go_wp2_with fail
      refine (same_any A7 (some ⟨w2.heap.size, 0, none⟩) [p] [p] c7 1 _ (HR7.out.below (alloc1 _ (.cells (ints [p]).toArray 2))) (litI w2 [p]) (by simp) (by simp) true (by simp)).mono ?_
      rintro e w3 ⟨rfl, hb⟩
      have HB := Lib.hid (HB.out.alloc HB.out.size (.cells (ints [p]).toArray 2))
      have HB := Lib.hid (HB.out.trans (hb.mono (by have := HB.out.size; simp at this ⊢ <;> omega)))
      clear hb HR7
      go_wp2_with fail
      refine (HS.out _ (HR.out.below HB.out)).mono ?_
      rintro e w4 ⟨rfl, hb⟩
      have HB := Lib.hid (below_inA HB.out hb)
      clear hb
      go_wp2_with fail
      refine (HAL.out _ (HR.out.below HB.out)).mono ?_
      rintro e w5 ⟨B5, c5, rfl, hr5, _, hb⟩
      rw [HN.out]
      have HB := Lib.hid (below_inA HB.out hb)
      have HR5 := Lib.hid (hr5.weak (Nat.zero_le _))
      clear hb hr5
      go_wp2_with fail
      refine (HDI.out _ (HR.out.below HB.out)).mono ?_
      rintro e w6 ⟨rfl, hb⟩
      have HB := Lib.hid (below_inA HB.out hb)
      have HR5 := Lib.hid (HR5.out.below hb)
      clear hb
      go_wp2_with fail
      refine (HSO.out _ (HR.out.below HB.out) (HRW.out.below HB.out)).mono ?_
      rintro e w7 ⟨B7, c7, rfl, hr7, _, hb⟩
      have HB := Lib.hid (below_inA HB.out hb)
      have HR5 := Lib.hid (HR5.out.below hb)
      rw [HN.out]
      have HR8 := Lib.hid (hr7.weak (Nat.zero_le _))
      clear hb hr7
      go_wp2_with fail
      refine (HSM.out _ _ _ HR5.out (HR.out.below HB.out)).mono ?_
      rintro e w8 ⟨rfl, hb⟩
      have HB := Lib.hid (below_inA HB.out hb)
      have HR8 := Lib.hid (HR8.out.below hb)
      clear hb HR5
      go_wp2_with fail
      refine (HSM.out _ _ _ HR8.out (HR.out.below HB.out)).mono ?_
      rintro e w9 ⟨rfl, hb⟩
      have HB := Lib.hid (below_inA HB.out hb)
      clear hb HR8
      go_wp2_with fail
      go_ret
      exact ⟨rfl, HB.out⟩
set_option maxHeartbeats 1000000 in
set_option maxRecDepth 100000 in
theorem nL_lose_p (A W : Option Addr) (al wh : List Int) (c d : Nat) (p : Int) (w : World) (hx : ∀ x ∈ al, I64 x) (hr : Row w 0 A (ints al)) (hrw : Row w 0 W (ints wh)) (hp : I64 p) (hl : al.length ≤ 64) (hm : wh.length ≤ 70) (h1 : ∀ x ∈ al, 1 ≤ x) (h0 : 0 ≤ p) (hne : al ≠ []) (hS : I64 al.sum) (hE : someE al.sum al wh ≠ 0) :
    Calls Try.prog 5 #[.slice A al.length c, .slice W wh.length d, .int .i64 p] w fun e w' => e = .returned (.bool true) ∧ Below w.heap.size w w' := by
  have HR := Lib.hid hr
  have HRW := Lib.hid hrw
  have H1 := Lib.hid (fun i (hi : i < al.length) => show 1 ≤ al.getD i 0 by rw [List.getD_eq_getElem?_getD, List.getElem?_eq_getElem hi]; exact h1 _ (List.getElem_mem _))
  have H7 := Lib.hid (fun w1 => all_is p (some ⟨w1.heap.size, 0, none⟩) [7] 1 (w1.alloc (.cells (ints [7]).toArray 2)) hp (small (by decide)) (litI w1 [7]) (by decide) [p] 0 ⟨(all_seven h0).2, (all_seven h0).1⟩)
  have HS := Lib.hid (fun w1 (h : Row w1 0 A (ints al)) => sum_is A al c w1 al.sum 0 hx h (by omega) ⟨by unfold sumN; rw [if_pos hS], by unfold sumE; rw [if_pos hS]⟩)
  have hself := all_self h1 hne hl hS
  have HAL := Lib.hid (fun w1 (h : Row w1 0 A (ints al)) => all_is al.sum A al c w1 hS hx h (by omega) al 0 ⟨hself.2, hself.1⟩)
  have HDI := Lib.hid (fun w1 (h : Row w1 0 A (ints al)) => disc_is al.sum A al c w1 hS (by omega) hx h 0 0 (by rw [Int.sub_self]; decide))
  have HSM := Lib.hid (fun B1 d1 w1 (h1 : Row w1 0 B1 (ints al)) (h2 : Row w1 0 A (ints al)) => same_any B1 A al al d1 c w1 h1 h2 (by omega) (by omega) true (by simp))
  have HSO := Lib.hid (fun w1 (h : Row w1 0 A (ints al)) (h' : Row w1 0 W (ints wh)) => some_is al.sum A W al wh c d w1 hS hx h h' (by omega) (by omega) [] (someE al.sum al wh) ⟨some_bad0 hE, rfl⟩)
  clear hself hS
  generalize someE al.sum al wh = E3 at *
  have hE3 : (E3 != 0) = true := by simpa using hE
  have hpos : 1 ≤ al.length := List.length_pos_iff.2 hne
  generalize al.sum = S at *
  obtain ⟨n, hn⟩ : ∃ n, al.length = n := ⟨_, rfl⟩
  have HN := Lib.hid hn
  rw [hn] at hl HS HAL HDI HSM HSO hpos ⊢
  generalize wh.length = m at *
  have h2 : ¬ (64 : Int) < (n : Int) := by omega
  have h3 : ¬ (70 : Int) < (m : Int) := by omega
  have h4 : ¬ (n : Int) = 0 := by omega
  have h5 : ((n : Int) == 0) = false := by simp; omega
  clear hx hr hrw hp hn h1 hne
  go_enter Try.func5, Try.ntmps5
  go_wp2_with fail
  refine (awake13 _).mono ?_
  rintro e w1 ⟨rfl, hb⟩
  have HB := Lib.hid hb
  clear hb
  go_wp2_with fail
  go_loop [31] (fun i => ∃ k : Nat, i = .int .i64 (k : Int) ∧ k ≤ n) (fun i => n - (intOf i).toNat)
  case atStart => exact ⟨0, rfl, by omega⟩
  case round =>
    obtain ⟨k, rfl, hk⟩ := hrel
    have g0 : (0 : Int) ≤ (k : Int) := Int.natCast_nonneg _
    by_cases hlt : k < n
    · obtain ⟨ad, rfl, c0⟩ := int_cell (HR.out.below HB.out) (j := k) (by rw [HN.out]; exact hlt)
      have g1 : (k : Int) < (n : Int) := by omega
      have hy := H1.out k (by rw [HN.out]; exact hlt)
      generalize al.getD k 0 = y at *
      have hy2 : ¬ y < 1 := by omega
      go_wp2_with fail
      go_round
      case rel => exact ⟨k + 1, by go_num, by omega⟩
      case measure => simp [intOf]; omega
    · obtain rfl : k = n := by omega
      go_wp2_with fail
      refine (H7.out _).mono ?_
      rintro e w2 ⟨A7, c7, rfl, hr7, hc7, hb⟩
      have HB := Lib.hid (HB.out.alloc HB.out.size (.cells (ints [7]).toArray 2))
      have HB := Lib.hid (HB.out.trans (hb.mono (by have := HB.out.size; simp at this ⊢ <;> omega)))
      have HR7 := Lib.hid (hr7.weak (Nat.zero_le _))
      clear hb hr7 hc7
      go_wp2_with fail
      refine (same_any A7 (some ⟨w2.heap.size, 0, none⟩) [p] [p] c7 1 _ (HR7.out.below (alloc1 _ (.cells (ints [p]).toArray 2))) (litI w2 [p]) (by simp) (by simp) true (by simp)).mono ?_
      rintro e w3 ⟨rfl, hb⟩
      have HB := Lib.hid (HB.out.alloc HB.out.size (.cells (ints [p]).toArray 2))
      have HB := Lib.hid (HB.out.trans (hb.mono (by have := HB.out.size; simp at this ⊢ <;> omega)))
      clear hb HR7
      go_wp2_with fail
      refine (HS.out _ (HR.out.below HB.out)).mono ?_
      rintro e w4 ⟨rfl, hb⟩
      have HB := Lib.hid (below_inA HB.out hb)
      clear hb
      go_wp2_with fail
      refine (HAL.out _ (HR.out.below HB.out)).mono ?_
      rintro e w5 ⟨B5, c5, rfl, hr5, _, hb⟩
      rw [HN.out]
      have HB := Lib.hid (below_inA HB.out hb)
      have HR5 := Lib.hid (hr5.weak (Nat.zero_le _))
      clear hb hr5
      go_wp2_with fail
      refine (HDI.out _ (HR.out.below HB.out)).mono ?_
      rintro e w6 ⟨rfl, hb⟩
      have HB := Lib.hid (below_inA HB.out hb)
      have HR5 := Lib.hid (HR5.out.below hb)
      clear hb
      go_wp2_with fail
      refine (HSO.out _ (HR.out.below HB.out) (HRW.out.below HB.out)).mono ?_
      rintro e w7 ⟨B7, c7, rfl, hr7, _, hb⟩
      have HB := Lib.hid (below_inA HB.out hb)
      have HR5 := Lib.hid (HR5.out.below hb)
      clear hb hr7
      go_wp2_with fail
      refine (HSM.out _ _ _ HR5.out (HR.out.below HB.out)).mono ?_
      rintro e w8 ⟨rfl, hb⟩
      have HB := Lib.hid (below_inA HB.out hb)
      clear hb HR5
      go_wp2_with fail
      go_ret
      exact ⟨rfl, HB.out⟩
set_option maxHeartbeats 1000000 in
set_option maxRecDepth 100000 in
theorem nL_over_n (A W : Option Addr) (al wh : List Int) (c d : Nat) (p : Int) (w : World) (hx : ∀ x ∈ al, I64 x) (hr : Row w 0 A (ints al)) (hrw : Row w 0 W (ints wh)) (hp : I64 p) (hl : al.length ≤ 64) (hm : wh.length ≤ 70) (h1 : ∀ x ∈ al, 1 ≤ x) (h0 : p < 0) (hS : ¬ I64 al.sum) :
    Calls Try.prog 5 #[.slice A al.length c, .slice W wh.length d, .int .i64 p] w fun e w' => e = .returned (.bool true) ∧ Below w.heap.size w w' := by
  have HR := Lib.hid hr
  have HRW := Lib.hid hrw
  have H1 := Lib.hid (fun i (hi : i < al.length) => show 1 ≤ al.getD i 0 by rw [List.getD_eq_getElem?_getD, List.getElem?_eq_getElem hi]; exact h1 _ (List.getElem_mem _))
  have H7 := Lib.hid (fun w1 => all_is p (some ⟨w1.heap.size, 0, none⟩) [7] 1 (w1.alloc (.cells (ints [7]).toArray 2)) hp (small (by decide)) (litI w1 [7]) (by decide) [] 1 ⟨by unfold allV; rw [if_pos h0], by unfold allE; rw [if_pos h0]⟩)
  have HS := Lib.hid (fun w1 (h : Row w1 0 A (ints al)) => sum_is A al c w1 0 3 hx h (by omega) ⟨by unfold sumN; rw [if_neg hS], by unfold sumE; rw [if_neg hS]⟩)
  clear hS
  obtain ⟨n, hn⟩ : ∃ n, al.length = n := ⟨_, rfl⟩
  have HN := Lib.hid hn
  rw [hn] at hl HS ⊢
  generalize wh.length = m at *
  have h2 : ¬ (64 : Int) < (n : Int) := by omega
  have h3 : ¬ (70 : Int) < (m : Int) := by omega
  clear hx hr hrw hp hn h1
  go_enter Try.func5, Try.ntmps5
  go_wp2_with fail
  refine (awake13 _).mono ?_
  rintro e w1 ⟨rfl, hb⟩
  have HB := Lib.hid hb
  clear hb
  go_wp2_with fail
  go_loop [31] (fun i => ∃ k : Nat, i = .int .i64 (k : Int) ∧ k ≤ n) (fun i => n - (intOf i).toNat)
  case atStart => exact ⟨0, rfl, by omega⟩
  case round =>
    obtain ⟨k, rfl, hk⟩ := hrel
    have g0 : (0 : Int) ≤ (k : Int) := Int.natCast_nonneg _
    by_cases hlt : k < n
    · obtain ⟨ad, rfl, c0⟩ := int_cell (HR.out.below HB.out) (j := k) (by rw [HN.out]; exact hlt)
      have g1 : (k : Int) < (n : Int) := by omega
      have hy := H1.out k (by rw [HN.out]; exact hlt)
      generalize al.getD k 0 = y at *
      have hy2 : ¬ y < 1 := by omega
      go_wp2_with fail
      go_round
      case rel => exact ⟨k + 1, by go_num, by omega⟩
      case measure => simp [intOf]; omega
    · obtain rfl : k = n := by omega
      go_wp2_with fail
      refine (H7.out _).mono ?_
      rintro e w3 ⟨A7, c7, rfl, _, _, hb⟩
      have HB := Lib.hid (HB.out.alloc HB.out.size (.cells (ints [7]).toArray 2))
      have HB := Lib.hid (HB.out.trans (hb.mono (by have := HB.out.size; simp at this ⊢ <;> omega)))
      clear hb
      go_wp2_with fail
      refine (HS.out _ (HR.out.below HB.out)).mono ?_
      rintro e w4 ⟨rfl, hb⟩
      have HB := Lib.hid (below_inA HB.out hb)
      clear hb
      go_wp2_with fail
      go_ret
      exact ⟨rfl, HB.out⟩
set_option maxHeartbeats 1000000 in
set_option maxRecDepth 100000 in
theorem nL_none_n (A W : Option Addr) (al wh : List Int) (c d : Nat) (p : Int) (w : World) (hx : ∀ x ∈ al, I64 x) (hr : Row w 0 A (ints al)) (hrw : Row w 0 W (ints wh)) (hp : I64 p) (hl : al.length ≤ 64) (hm : wh.length ≤ 70) (h1 : ∀ x ∈ al, 1 ≤ x) (h0 : p < 0) (h00 : al = []) :
    Calls Try.prog 5 #[.slice A al.length c, .slice W wh.length d, .int .i64 p] w fun e w' => e = .returned (.bool true) ∧ Below w.heap.size w w' := by
  have HR := Lib.hid hr
  have HRW := Lib.hid hrw
  have H1 := Lib.hid (fun i (hi : i < al.length) => show 1 ≤ al.getD i 0 by rw [List.getD_eq_getElem?_getD, List.getElem?_eq_getElem hi]; exact h1 _ (List.getElem_mem _))
  have H7 := Lib.hid (fun w1 => all_is p (some ⟨w1.heap.size, 0, none⟩) [7] 1 (w1.alloc (.cells (ints [7]).toArray 2)) hp (small (by decide)) (litI w1 [7]) (by decide) [] 1 ⟨by unfold allV; rw [if_pos h0], by unfold allE; rw [if_pos h0]⟩)
  have HS := Lib.hid (fun w1 (h : Row w1 0 A (ints al)) => sum_is A al c w1 0 0 hx h (by omega) (by subst h00; decide))
  have h00 : al.length = 0 := by rw [h00]; rfl
  obtain ⟨n, hn⟩ : ∃ n, al.length = n := ⟨_, rfl⟩
  have HN := Lib.hid hn
  rw [hn] at hl HS h00 ⊢
  subst h00
  generalize wh.length = m at *
  have h2 : ¬ (64 : Int) < (0 : Int) := by omega
  have h3 : ¬ (70 : Int) < (m : Int) := by omega
  clear hx hr hrw hp hn h1
  go_enter Try.func5, Try.ntmps5
  go_wp2_with fail
  refine (awake13 _).mono ?_
  rintro e w1 ⟨rfl, hb⟩
  have HB := Lib.hid hb
  clear hb
  go_wp2_with fail
  go_loop [31] (fun i => ∃ k : Nat, i = .int .i64 (k : Int) ∧ k ≤ 0) (fun i => 0 - (intOf i).toNat)
  case atStart => exact ⟨0, rfl, by omega⟩
  case round =>
    obtain ⟨k, rfl, hk⟩ := hrel
    have g0 : (0 : Int) ≤ (k : Int) := Int.natCast_nonneg _
    by_cases hlt : k < 0
    · omega
    · obtain rfl : k = 0 := by omega
      go_wp2_with fail
      refine (H7.out _).mono ?_
      rintro e w3 ⟨A7, c7, rfl, _, _, hb⟩
      have HB := Lib.hid (HB.out.alloc HB.out.size (.cells (ints [7]).toArray 2))
      have HB := Lib.hid (HB.out.trans (hb.mono (by have := HB.out.size; simp at this ⊢ <;> omega)))
      clear hb
      go_wp2_with fail
      refine (HS.out _ (HR.out.below HB.out)).mono ?_
      rintro e w4 ⟨rfl, hb⟩
      have HB := Lib.hid (below_inA HB.out hb)
      clear hb
      go_wp2_with fail
      go_ret
      exact ⟨rfl, HB.out⟩
set_option maxHeartbeats 1000000 in
set_option maxRecDepth 100000 in
theorem nL_keep_n (A W : Option Addr) (al wh : List Int) (c d : Nat) (p : Int) (w : World) (hx : ∀ x ∈ al, I64 x) (hr : Row w 0 A (ints al)) (hrw : Row w 0 W (ints wh)) (hp : I64 p) (hl : al.length ≤ 64) (hm : wh.length ≤ 70) (h1 : ∀ x ∈ al, 1 ≤ x) (h0 : p < 0) (hne : al ≠ []) (hS : I64 al.sum) (hE : someE al.sum al wh = 0) :
    Calls Try.prog 5 #[.slice A al.length c, .slice W wh.length d, .int .i64 p] w fun e w' => e = .returned (.bool true) ∧ Below w.heap.size w w' := by
  have HR := Lib.hid hr
  have HRW := Lib.hid hrw
  have H1 := Lib.hid (fun i (hi : i < al.length) => show 1 ≤ al.getD i 0 by rw [List.getD_eq_getElem?_getD, List.getElem?_eq_getElem hi]; exact h1 _ (List.getElem_mem _))
  have H7 := Lib.hid (fun w1 => all_is p (some ⟨w1.heap.size, 0, none⟩) [7] 1 (w1.alloc (.cells (ints [7]).toArray 2)) hp (small (by decide)) (litI w1 [7]) (by decide) [] 1 ⟨by unfold allV; rw [if_pos h0], by unfold allE; rw [if_pos h0]⟩)
  have HS := Lib.hid (fun w1 (h : Row w1 0 A (ints al)) => sum_is A al c w1 al.sum 0 hx h (by omega) ⟨by unfold sumN; rw [if_pos hS], by unfold sumE; rw [if_pos hS]⟩)
  have hself := all_self h1 hne hl hS
  have HAL := Lib.hid (fun w1 (h : Row w1 0 A (ints al)) => all_is al.sum A al c w1 hS hx h (by omega) al 0 ⟨hself.2, hself.1⟩)
  have HDI := Lib.hid (fun w1 (h : Row w1 0 A (ints al)) => disc_is al.sum A al c w1 hS (by omega) hx h 0 0 (by rw [Int.sub_self]; decide))
  have HSM := Lib.hid (fun B1 d1 w1 (h1 : Row w1 0 B1 (ints al)) (h2 : Row w1 0 A (ints al)) => same_any B1 A al al d1 c w1 h1 h2 (by omega) (by omega) true (by simp))
  have HSO := Lib.hid (fun w1 (h : Row w1 0 A (ints al)) (h' : Row w1 0 W (ints wh)) => some_is al.sum A W al wh c d w1 hS hx h h' (by omega) (by omega) al 0 ⟨some_self hS hE, hE⟩)
  clear hself hS hE
  have hpos : 1 ≤ al.length := List.length_pos_iff.2 hne
  generalize al.sum = S at *
  obtain ⟨n, hn⟩ : ∃ n, al.length = n := ⟨_, rfl⟩
  have HN := Lib.hid hn
  rw [hn] at hl HS HAL HDI HSM HSO hpos ⊢
  generalize wh.length = m at *
  have h2 : ¬ (64 : Int) < (n : Int) := by omega
  have h3 : ¬ (70 : Int) < (m : Int) := by omega
  have h4 : ¬ (n : Int) = 0 := by omega
  have h5 : ((n : Int) == 0) = false := by simp; omega
  clear hx hr hrw hp hn h1 hne
  go_enter Try.func5, Try.ntmps5
  go_wp2_with fail
  refine (awake13 _).mono ?_
  rintro e w1 ⟨rfl, hb⟩
  have HB := Lib.hid hb
  clear hb
  go_wp2_with fail
  go_loop [31] (fun i => ∃ k : Nat, i = .int .i64 (k : Int) ∧ k ≤ n) (fun i => n - (intOf i).toNat)
  case atStart => exact ⟨0, rfl, by omega⟩
  case round =>
    obtain ⟨k, rfl, hk⟩ := hrel
    have g0 : (0 : Int) ≤ (k : Int) := Int.natCast_nonneg _
    by_cases hlt : k < n
    · obtain ⟨ad, rfl, c0⟩ := int_cell (HR.out.below HB.out) (j := k) (by rw [HN.out]; exact hlt)
      have g1 : (k : Int) < (n : Int) := by omega
      have hy := H1.out k (by rw [HN.out]; exact hlt)
      generalize al.getD k 0 = y at *
      have hy2 : ¬ y < 1 := by omega
      go_wp2_with fail
      go_round
      case rel => exact ⟨k + 1, by go_num, by omega⟩
      case measure => simp [intOf]; omega
    · obtain rfl : k = n := by omega
      go_wp2_with fail
      refine (H7.out _).mono ?_
      rintro e w3 ⟨A7, c7, rfl, _, _, hb⟩
      have HB := Lib.hid (HB.out.alloc HB.out.size (.cells (ints [7]).toArray 2))
      have HB := Lib.hid (HB.out.trans (hb.mono (by have := HB.out.size; simp at this ⊢ <;> omega)))
      clear hb
      go_wp2_with fail
      refine (HS.out _ (HR.out.below HB.out)).mono ?_
      rintro e w4 ⟨rfl, hb⟩
      have HB := Lib.hid (below_inA HB.out hb)
      clear hb
      go_wp2_with fail
      refine (HAL.out _ (HR.out.below HB.out)).mono ?_
      rintro e w5 ⟨B5, c5, rfl, hr5, _, hb⟩
      rw [HN.out]
      have HB := Lib.hid (below_inA HB.out hb)
      have HR5 := Lib.hid (hr5.weak (Nat.zero_le _))
      clear hb hr5
      go_wp2_with fail
      refine (HDI.out _ (HR.out.below HB.out)).mono ?_
      rintro e w6 ⟨rfl, hb⟩
      have HB := Lib.hid (below_inA HB.out hb)
      have HR5 := Lib.hid (HR5.out.below hb)
      clear hb
      go_wp2_with fail
      refine (HSO.out _ (HR.out.below HB.out) (HRW.out.below HB.out)).mono ?_
      rintro e w7 ⟨B7, c7, rfl, hr7, _, hb⟩
      have HB := Lib.hid (below_inA HB.out hb)
      have HR5 := Lib.hid (HR5.out.below hb)
      rw [HN.out]
      have HR8 := Lib.hid (hr7.weak (Nat.zero_le _))
      clear hb hr7
      go_wp2_with fail
      refine (HSM.out _ _ _ HR5.out (HR.out.below HB.out)).mono ?_
      rintro e w8 ⟨rfl, hb⟩
      have HB := Lib.hid (below_inA HB.out hb)
      have HR8 := Lib.hid (HR8.out.below hb)
      clear hb HR5
      go_wp2_with fail
      refine (HSM.out _ _ _ HR8.out (HR.out.below HB.out)).mono ?_
      rintro e w9 ⟨rfl, hb⟩
      have HB := Lib.hid (below_inA HB.out hb)
      clear hb HR8
      go_wp2_with fail
      go_ret
      exact ⟨rfl, HB.out⟩
set_option maxHeartbeats 1000000 in
set_option maxRecDepth 100000 in
theorem nL_lose_n (A W : Option Addr) (al wh : List Int) (c d : Nat) (p : Int) (w : World) (hx : ∀ x ∈ al, I64 x) (hr : Row w 0 A (ints al)) (hrw : Row w 0 W (ints wh)) (hp : I64 p) (hl : al.length ≤ 64) (hm : wh.length ≤ 70) (h1 : ∀ x ∈ al, 1 ≤ x) (h0 : p < 0) (hne : al ≠ []) (hS : I64 al.sum) (hE : someE al.sum al wh ≠ 0) :
    Calls Try.prog 5 #[.slice A al.length c, .slice W wh.length d, .int .i64 p] w fun e w' => e = .returned (.bool true) ∧ Below w.heap.size w w' := by
  have HR := Lib.hid hr
  have HRW := Lib.hid hrw
  have H1 := Lib.hid (fun i (hi : i < al.length) => show 1 ≤ al.getD i 0 by rw [List.getD_eq_getElem?_getD, List.getElem?_eq_getElem hi]; exact h1 _ (List.getElem_mem _))
  have H7 := Lib.hid (fun w1 => all_is p (some ⟨w1.heap.size, 0, none⟩) [7] 1 (w1.alloc (.cells (ints [7]).toArray 2)) hp (small (by decide)) (litI w1 [7]) (by decide) [] 1 ⟨by unfold allV; rw [if_pos h0], by unfold allE; rw [if_pos h0]⟩)
  have HS := Lib.hid (fun w1 (h : Row w1 0 A (ints al)) => sum_is A al c w1 al.sum 0 hx h (by omega) ⟨by unfold sumN; rw [if_pos hS], by unfold sumE; rw [if_pos hS]⟩)
  have hself := all_self h1 hne hl hS
  have HAL := Lib.hid (fun w1 (h : Row w1 0 A (ints al)) => all_is al.sum A al c w1 hS hx h (by omega) al 0 ⟨hself.2, hself.1⟩)
  have HDI := Lib.hid (fun w1 (h : Row w1 0 A (ints al)) => disc_is al.sum A al c w1 hS (by omega) hx h 0 0 (by rw [Int.sub_self]; decide))
  have HSM := Lib.hid (fun B1 d1 w1 (h1 : Row w1 0 B1 (ints al)) (h2 : Row w1 0 A (ints al)) => same_any B1 A al al d1 c w1 h1 h2 (by omega) (by omega) true (by simp))
  have HSO := Lib.hid (fun w1 (h : Row w1 0 A (ints al)) (h' : Row w1 0 W (ints wh)) => some_is al.sum A W al wh c d w1 hS hx h h' (by omega) (by omega) [] (someE al.sum al wh) ⟨some_bad0 hE, rfl⟩)
  clear hself hS
  generalize someE al.sum al wh = E3 at *
  have hE3 : (E3 != 0) = true := by simpa using hE
  have hpos : 1 ≤ al.length := List.length_pos_iff.2 hne
  generalize al.sum = S at *
  obtain ⟨n, hn⟩ : ∃ n, al.length = n := ⟨_, rfl⟩
  have HN := Lib.hid hn
  rw [hn] at hl HS HAL HDI HSM HSO hpos ⊢
  generalize wh.length = m at *
  have h2 : ¬ (64 : Int) < (n : Int) := by omega
  have h3 : ¬ (70 : Int) < (m : Int) := by omega
  have h4 : ¬ (n : Int) = 0 := by omega
  have h5 : ((n : Int) == 0) = false := by simp; omega
  clear hx hr hrw hp hn h1 hne
  go_enter Try.func5, Try.ntmps5
  go_wp2_with fail
  refine (awake13 _).mono ?_
  rintro e w1 ⟨rfl, hb⟩
  have HB := Lib.hid hb
  clear hb
  go_wp2_with fail
  go_loop [31] (fun i => ∃ k : Nat, i = .int .i64 (k : Int) ∧ k ≤ n) (fun i => n - (intOf i).toNat)
  case atStart => exact ⟨0, rfl, by omega⟩
  case round =>
    obtain ⟨k, rfl, hk⟩ := hrel
    have g0 : (0 : Int) ≤ (k : Int) := Int.natCast_nonneg _
    by_cases hlt : k < n
    · obtain ⟨ad, rfl, c0⟩ := int_cell (HR.out.below HB.out) (j := k) (by rw [HN.out]; exact hlt)
      have g1 : (k : Int) < (n : Int) := by omega
      have hy := H1.out k (by rw [HN.out]; exact hlt)
      generalize al.getD k 0 = y at *
      have hy2 : ¬ y < 1 := by omega
      go_wp2_with fail
      go_round
      case rel => exact ⟨k + 1, by go_num, by omega⟩
      case measure => simp [intOf]; omega
    · obtain rfl : k = n := by omega
      go_wp2_with fail
      refine (H7.out _).mono ?_
      rintro e w3 ⟨A7, c7, rfl, _, _, hb⟩
      have HB := Lib.hid (HB.out.alloc HB.out.size (.cells (ints [7]).toArray 2))
      have HB := Lib.hid (HB.out.trans (hb.mono (by have := HB.out.size; simp at this ⊢ <;> omega)))
      clear hb
      go_wp2_with fail
      refine (HS.out _ (HR.out.below HB.out)).mono ?_
      rintro e w4 ⟨rfl, hb⟩
      have HB := Lib.hid (below_inA HB.out hb)
      clear hb
      go_wp2_with fail
      refine (HAL.out _ (HR.out.below HB.out)).mono ?_
      rintro e w5 ⟨B5, c5, rfl, hr5, _, hb⟩
      rw [HN.out]
      have HB := Lib.hid (below_inA HB.out hb)
      have HR5 := Lib.hid (hr5.weak (Nat.zero_le _))
      clear hb hr5
      go_wp2_with fail
      refine (HDI.out _ (HR.out.below HB.out)).mono ?_
      rintro e w6 ⟨rfl, hb⟩
      have HB := Lib.hid (below_inA HB.out hb)
      have HR5 := Lib.hid (HR5.out.below hb)
      clear hb
      go_wp2_with fail
      refine (HSO.out _ (HR.out.below HB.out) (HRW.out.below HB.out)).mono ?_
      rintro e w7 ⟨B7, c7, rfl, hr7, _, hb⟩
      have HB := Lib.hid (below_inA HB.out hb)
      have HR5 := Lib.hid (HR5.out.below hb)
      clear hb hr7
      go_wp2_with fail
      refine (HSM.out _ _ _ HR5.out (HR.out.below HB.out)).mono ?_
      rintro e w8 ⟨rfl, hb⟩
      have HB := Lib.hid (below_inA HB.out hb)
      clear hb HR5
      go_wp2_with fail
      go_ret
      exact ⟨rfl, HB.out⟩
theorem noneL_walk (A : Option Addr) (al : List Int) (c : Nat) (W : Option Addr) (wh : List Int) (d : Nat) (p : Int) (w : World) (hx : ∀ x ∈ al, I64 x) (hr : Row w 0 A (ints al)) (hl : al.length * 8 ≤ 140737488351232) (hxw : ∀ x ∈ wh, I64 x) (hrw : Row w 0 W (ints wh)) (hm : wh.length * 8 ≤ 140737488351232) (hp : I64 p) :
    Calls Try.prog 5 #[.slice A al.length c, .slice W wh.length d, .int .i64 p] w fun e w' => e = .returned (.bool true) ∧ Below w.heap.size w w' := by
  by_cases h1 : 64 < al.length
  · exact nL_out1 A W al.length wh.length c d p w h1 (by omega) (by omega)
  · by_cases h2 : 70 < wh.length
    · exact nL_out2 A W al.length wh.length c d p w h1 h2 (by omega) (by omega)
    · by_cases h3 : ∃ i, i < al.length ∧ al.getD i 0 < 1
      · exact nL_less A W al wh c d p w hx hr hrw hp (by omega) (by omega) h3
      · have h4 : ∀ x ∈ al, 1 ≤ x := fun x hx => by
          obtain ⟨i, hi, rfl⟩ := List.getElem_of_mem hx
          have : ¬ al.getD i 0 < 1 := fun h => h3 ⟨i, hi, h⟩
          rw [List.getD_eq_getElem?_getD, List.getElem?_eq_getElem hi, Option.getD_some] at this
          omega
        by_cases h5 : al = []
        · by_cases h0 : 0 ≤ p
          · exact nL_none_p A W al wh c d p w hx hr hrw hp (by omega) (by omega) h4 h0 h5
          · exact nL_none_n A W al wh c d p w hx hr hrw hp (by omega) (by omega) h4 (by omega) h5
        · by_cases h6 : I64 al.sum
          · by_cases h7 : someE al.sum al wh = 0
            · by_cases h0 : 0 ≤ p
              · exact nL_keep_p A W al wh c d p w hx hr hrw hp (by omega) (by omega) h4 h0 h5 h6 h7
              · exact nL_keep_n A W al wh c d p w hx hr hrw hp (by omega) (by omega) h4 (by omega) h5 h6 h7
            · by_cases h0 : 0 ≤ p
              · exact nL_lose_p A W al wh c d p w hx hr hrw hp (by omega) (by omega) h4 h0 h5 h6 h7
              · exact nL_lose_n A W al wh c d p w hx hr hrw hp (by omega) (by omega) h4 (by omega) h5 h6 h7
          · by_cases h0 : 0 ≤ p
            · exact nL_over_p A W al wh c d p w hx hr hrw hp (by omega) (by omega) h4 h0 h6
            · exact nL_over_n A W al wh c d p w hx hr hrw hp (by omega) (by omega) h4 (by omega) h6
end Go.Proofs.Ytkceeifhnohioaa.PO
