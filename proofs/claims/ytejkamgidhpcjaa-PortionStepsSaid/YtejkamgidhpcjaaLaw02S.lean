/- The walk of the law PortionSteps. -/
import Derived.Test.YtejkamgidhpcjaaLaw02W
import Derived.Test.YtejkamgidhpcjaaStepsMath2
import Derived.Test.YtejkamgidhpcjaaApp0
import Derived.Deep.QuietTactic
import Derived.BigQuiet
namespace Go.Proofs.Ytejkamgidhpcjaa.PO
open Go.RowKit Go.Proofs.Ytejkamgidhpcjaa.Cents Go.Proofs.Ytejkamgidhpcjaa.CO Go.Proofs.Ytejkamgidhpcjaa.Exact
set_option linter.unusedVariables false
set_option linter.unusedSimpArgs false

set_option maxRecDepth 100000 in
theorem steps_out (T : Int) (A : Option Addr) (n c : Nat) (W x : Int) (w : World) (h : 70 < n) (hn : n ≤ 140737488351232) :
    Calls Try.prog 10 #[.int .i64 T, .slice A n c, .int .i64 W, .int .i64 x] w fun e w' => e = .returned (.bool true) ∧ Below w.heap.size w w' := by
  have hn2 : decide ((70 : Int) < (n : Int)) = true := by simp; omega
  clear h
  go_enter Try.func10, Try.ntmps10
  go_wp2_with fail
  refine (awake02 _).mono ?_
  rintro e w1 ⟨rfl, hb⟩
  have HB := Lib.hid hb
  clear hb
  go_wp2_with fail
  go_ret
  exact ⟨rfl, HB.out⟩
theorem stV_bad {T W : Int} {ms : List Int} (h : stE W ms ≠ 0) : stV T W ms = [] := by
  unfold stV; rw [if_neg h]
theorem stV_good {T W : Int} {ms : List Int} (h : stE W ms = 0) : stV T W ms = stL T W ms := by
  unfold stV; rw [if_pos h]
set_option maxRecDepth 100000 in
theorem steps_bad (T : Int) (A : Option Addr) (ms : List Int) (c : Nat) (W x : Int) (w : World) (hT : I64 T) (hW : I64 W) (hx : ∀ x ∈ ms, I64 x) (hr : Row w 0 A (ints ms)) (hl : ms.length ≤ 70) (hE : stE W ms ≠ 0) :
    Calls Try.prog 10 #[.int .i64 T, .slice A ms.length c, .int .i64 W, .int .i64 x] w fun e w' => e = .returned (.bool true) ∧ Below w.heap.size w w' := by
  have HR := Lib.hid hr
  have HO := Lib.hid (fun w1 (h : Row w1 0 A (ints ms)) => steps_is T W A ms c w1 hT hW hx h (by omega) [] (stE W ms) ⟨stV_bad hE, rfl⟩)
  generalize stE W ms = E at *
  generalize ms.length = n at *
  have hb0 : (E != 0) = true := by simpa using hE
  have hn2 : decide ((70 : Int) < (n : Int)) = false := by simp; omega
  clear hT hx hr hE
  go_enter Try.func10, Try.ntmps10
  go_wp2_with fail
  refine (awake02 _).mono ?_
  rintro e w1 ⟨rfl, hb⟩
  have HB := Lib.hid hb
  clear hb
  go_wp2_with fail
  refine (HO.out _ (HR.out.below HB.out)).mono ?_
  rintro e w2 ⟨B, d, rfl, _, _, hb⟩
  have HB := Lib.hid (below_in HB.out hb)
  clear hb
  go_wp2_with fail
  go_ret
  exact ⟨rfl, HB.out⟩
set_option maxHeartbeats 4000000 in
set_option maxRecDepth 100000 in
theorem steps_ok (T : Int) (A : Option Addr) (ms : List Int) (c : Nat) (W x : Int) (w : World) (hT : I64 T) (hW : I64 W) (hxx : I64 x) (hx : ∀ x ∈ ms, I64 x) (hr : Row w 0 A (ints ms)) (hl : ms.length ≤ 70) (hc : ms.length ≤ c) (hE : stE W ms = 0) :
    Calls Try.prog 10 #[.int .i64 T, .slice A ms.length c, .int .i64 W, .int .i64 x] w fun e w' => e = .returned (.bool true) ∧ Below w.heap.size w w' := by
  have HR := Lib.hid hr
  have HX := Lib.hid hx
  have HT := Lib.hid hT
  have HW := Lib.hid hW
  have HXI := Lib.hid hxx
  obtain ⟨hl64, hW1, hu⟩ := stE_ok hE
  obtain ⟨ht1, ht2⟩ := stL_total hT hW1 hu
  have HO := Lib.hid (fun w1 (h : Row w1 0 A (ints ms)) => steps_is T W A ms c w1 hT hW hx h (by omega) (stL T W ms) 0 ⟨stV_good hE, hE⟩)
  have HU := Lib.hid hu
  obtain ⟨Z, hZ⟩ : ∃ Z, T * prv ms ms.length / W = Z := ⟨_, rfl⟩
  rw [hZ] at ht1 ht2
  have HS := Lib.hid (fun B d w1 (h : Row w1 0 B (ints (stL T W ms))) => sum_is B (stL T W ms) d w1 Z 0 (stL_I hT hW1 hu) h (by rw [stL_len]; omega) (by unfold sumN sumE; rw [ht1, if_pos ht2, if_pos ht2]; exact ⟨rfl, rfl⟩))
  obtain ⟨L, hL⟩ : ∃ L, stL T W ms = L := ⟨_, rfl⟩
  have hll := stL_len T W ms
  rw [hL] at hll
  rw [hL] at HO HS
  obtain ⟨n, hn⟩ : ∃ n, ms.length = n := ⟨_, rfl⟩
  rw [hn] at hll hZ
  have HZ := Lib.hid hZ
  have HL := Lib.hid hL
  have HN := Lib.hid hn
  have HLN := Lib.hid hll
  rw [hn] at HO hl hc ⊢
  rw [hll] at HS
  have hn2 : decide ((70 : Int) < (n : Int)) = false := by simp; omega
  have hT1 := hT.1
  have hT2 := hT.2
  have hW2 := hW.2
  have hx1 := hxx.1
  have hx2 := hxx.2
  clear hT hW hxx hx hr hE hu hZ hL hn hll ht1 ht2 hl64
  go_enter Try.func10, Try.ntmps10
  go_wp2_with fail
  refine (awake02 _).mono ?_
  rintro e w1 ⟨rfl, hb⟩
  have HB := Lib.hid hb
  clear hb
  go_wp2_with fail
  refine (HO.out _ (HR.out.below HB.out)).mono ?_
  rintro e w2 ⟨B, d, rfl, hrow, hcd, hb⟩
  rw [HLN.out] at hcd ⊢
  have HB := Lib.hid (below_in HB.out hb)
  have HRL := Lib.hid (hrow.weak (Nat.zero_le _))
  clear hb hrow
  go_wp2_with fail
  refine (HS.out _ _ _ HRL.out).mono ?_
  rintro e w3 ⟨rfl, hb⟩
  have HB := Lib.hid (below_in HB.out hb)
  have HRL := Lib.hid (HRL.out.below hb)
  clear hb
  by_cases hn0 : n = 0
  · subst hn0
    go_wp2_with fail
    go_loop [67] (fun i => i = .int .i64 0) (fun i => 0)
    case atStart => rfl
    case round =>
      subst hrel
      go_wp2_with fail
      all_goals
        go_ret
        exact ⟨rfl, HB.out⟩
  · obtain ⟨ad, rfl, c9⟩ := int_cell (HR.out.below HB.out) (j := n - 1) (by rw [HN.out]; omega)
    obtain ⟨ld, rfl, _⟩ := int_cell HRL.out (j := 0) (by rw [HLN.out]; omega)
    obtain ⟨y, hy⟩ : ∃ y, ms.getD (n - 1) 0 = y := ⟨_, rfl⟩
    have hcase : (W = y ∧ T = Z) ∨ (y == W) = false := by
      by_cases e : W = y
      · left
        refine ⟨e, ?_⟩
        have hz := HZ.out
        obtain ⟨j, rfl⟩ : ∃ j, n = j + 1 := ⟨n - 1, by omega⟩
        rw [prv_succ] at hz
        rw [Nat.add_sub_cancel] at hy
        rw [hy, ← e, Int.mul_ediv_cancel _ (by omega)] at hz
        exact hz
      · right
        simpa using fun h => e h.symm
    rw [hy] at c9
    have hn1 : (0 : Int) < (n : Int) := by omega
    clear hy HZ HS
    rcases hcase with ⟨rfl, rfl⟩ | hyw
    all_goals
      go_wp2_with fail
      clear c9
      go_loop [67] (fun i => ∃ k : Nat, i = .int .i64 (k : Int) ∧ k ≤ n) (fun i => n - (intOf i).toNat)
      case atStart => exact ⟨0, rfl, by omega⟩
      case round =>
        obtain ⟨k, rfl, hk⟩ := hrel
        have g0 : (0 : Int) ≤ (k : Int) := Int.natCast_nonneg _
        by_cases hlt : k < n
        · obtain ⟨ld', e1, c1⟩ := int_cell HRL.out (j := k) (by rw [HLN.out]; exact hlt)
          cases e1
          have g1 : (k : Int) < (n : Int) := by omega
          have hpos := fun h => stL_pos HT.out hW1 HU.out h (i := k) (by rw [HN.out]; exact hlt)
          rw [HL.out] at hpos
          generalize L.getD k 0 = v at *
          by_cases h0 : 0 ≤ T
          · have hv := hpos h0
            clear hpos
            go_wp2_with fail
            go_round
            case rel => exact ⟨k + 1, by go_num, by omega⟩
            case measure => simp [intOf]; omega
          · clear hpos
            go_wp2_with fail
            go_round
            case rel => exact ⟨k + 1, by go_num, by omega⟩
            case measure => simp [intOf]; omega
        · obtain rfl : k = n := by omega
          clear hlt hk g0
          by_cases h0 : x < 0
          · go_wp2_with fail
            go_ret
            exact ⟨rfl, HB.out⟩
          by_cases h1 : W < x
          · go_wp2_with fail
            go_ret
            exact ⟨rfl, HB.out⟩
          have hx0 : 0 ≤ x := by omega
          have hxW : x ≤ W := by omega
          have d0 : (0 : Int) ≠ (k : Int) := by omega
          go_wp2_with fail
          have HC := Lib.hid (AllW.mk (w0 := w3) (out := []) (v := .slice none 0 0) (World.ownsRow_nil _ _ _ _) (Below.refl _ _))
          have HR3 := Lib.hid (HR.out.below HB.out)
          go_loopw [15, 16] (fun v i wr => ∃ (j : Nat) (G : Option Addr) (cg : Nat), v = .slice G j cg ∧ i = .int .i64 (j : Int) ∧ j ≤ k ∧ (∀ i, i < j → ms.getD i 0 ≤ x) ∧ AllW w3 (ms.take j) v wr) (fun _ i _ => k - (intOf i).toNat)
          case atStart => exact ⟨0, none, 0, rfl, rfl, by omega, fun i hi => by omega, by simpa using HC.out⟩
          case round =>
            clear HC
            obtain ⟨j, G, cg, rfl, rfl, hj, hle, hcw⟩ := hrel
            have HC := Lib.hid hcw
            have HLE := Lib.hid hle
            clear hcw hle
            have g2 : (0 : Int) ≤ (j : Int) := Int.natCast_nonneg _
            have hsz : w3.heap.size ≤ wr.heap.size := HC.out.be.size
            have hb1' : (j + 1) * 8 ≤ 140737488355328 := by omega
            have hb2' : j + 1 ≤ maxLen := by unfold maxLen; omega
            have hlt2 : (ms.take j).length = j := by rw [List.length_take, HN.out]; omega
            have HTL := Lib.hid hlt2
            have OW := Lib.hid (show wr.ownsRow w3.heap.size 2 1 (.slice G j cg) j (ints (ms.take j)) by have := HC.out.own; rw [hlt2] at this; exact this)
            clear hlt2
            by_cases hjk : j < k
            · obtain ⟨ad', e1, c1⟩ := int_cell (HR3.out.below HC.out.be) (j := j) (by rw [HN.out]; exact hjk)
              cases e1
              have hjl : j < ms.length := by rw [HN.out]; exact hjk
              have htk : ms.take (j + 1) = ms.take j ++ [ms.getD j 0] := by
                rw [List.take_succ_eq_append_getElem hjl]; simp [List.getD_eq_getElem?_getD, hjl]
              obtain ⟨m, hm⟩ : ∃ m, ms.getD j 0 = m := ⟨_, rfl⟩
              rw [hm] at c1 htk
              have HTK := Lib.hid htk
              have HM := Lib.hid hm
              have g3 : (j : Int) < (k : Int) := by omega
              clear htk hm hjl
              by_cases hmx : m ≤ x
              · go_wp2_with (at_builtin; refine wpList_app E_i64 rfl (.tmp 102) (.tmp 107) rfl rfl (OW.out.alloc _) ⟨wr.heap.size, 0, none⟩ 1 1 [.int .i64 m] rfl rfl (cell_one_new _ _ _) (one_cell _ _) hb1' hb2' (by simp; omega) (by decide) ?_; intro g cap w6 hown6 hg6 hat6; have HO6 := Lib.hid hown6; have HG6 := Lib.hid hg6; clear hown6 hg6 hat6)
                go_roundw
                case rel =>
                  have h6 := HC.out.step (x := m) (by rw [HTL.out]; exact HO6.out) (by have := HG6.out; exact this)
                  refine ⟨j + 1, _, _, rfl, by go_num, by omega, fun i hi => ?_, by rw [HTK.out]; exact h6⟩
                  rcases Nat.lt_or_ge i j with e | e
                  · exact HLE.out i e
                  · rw [show i = j by omega, HM.out]; exact hmx
                case measure => simp only [intOf]; omega
              · have HPUT := Lib.hid (show Put ms W x j from ⟨by rw [HN.out]; omega, HU.out, hx0, hxW, HLE.out, fun _ => by rw [HM.out]; omega⟩)
                have hca : ¬ (c = j) := by omega
                have hdl : (ms.drop j).length = k - j := by rw [List.length_drop, HN.out]
                have HDL := Lib.hid hdl
                have hb3 : (j + 1 + (k - j)) * 8 ≤ 140737488355328 := by omega
                have hb4 : j + 1 + (k - j) ≤ maxLen := by unfold maxLen; omega
                clear hdl
                go_wp2_with (at_builtin; first | (refine wpList_app E_i64 rfl (.tmp 111) (.tmp 113) rfl rfl (OW.out.alloc _) ⟨wr.heap.size, 0, none⟩ 1 1 [.int .i64 x] rfl rfl (cell_one_new _ _ _) (one_cell _ _) hb1' hb2' (by simp; omega) (by decide) ?_; intro g cap w6 hown6 hg6 hat6; have HO6 := Lib.hid hown6; have HG6 := Lib.hid hg6; clear hown6 hg6 hat6) | (have HC2 := Lib.hid (HC.out.step (x := x) (by rw [HTL.out]; exact HO6.out) (by have := HG6.out; exact this)); have HRD := Lib.hid (row_drop (HR3.out.below HC2.out.be) j); refine wpList_app E_i64 rfl (.tmp 115) (.tmp 118) rfl rfl HO6.out (ad.add j) (k - j) (c - j) (ints (ms.drop j)) rfl (by rw [ints_len, HDL.out, Nat.mul_one]) (row_news HRD.out) (ones _) hb3 hb4 HC2.out.be.size (by omega) ?_; intro g2 cap2 w7 hown7 hg7 hat7; rw [show j + 1 + (k - j) = k + 1 by omega] at hown7 ⊢; have HO7 := Lib.hid hown7; have HG7 := Lib.hid hg7; clear hown7 hg7 hat7))
                have hg7 : w6.grownBy w7 (Value.slice (some ⟨g, 0, none⟩) (j + 1) cap).ownBlock := HG7.out
                have hown7 : w7.ownsRow w3.heap.size 2 1 (.slice (some ⟨g2, 0, none⟩) (k + 1) cap2) (k + 1) (ints (ms.take j ++ [x]) ++ ints (ms.drop j)) := by
                  rw [show ints (ms.take j ++ [x]) = ints (ms.take j) ++ [.int .i64 x] by simp [ints]]; exact HO7.out
                have hl1 : (ms.take j ++ [x]).length = j + 1 := by rw [List.length_append, HTL.out]; rfl
                have HC3 := Lib.hid (AllW.more HC2.out hl1 HDL.out (by omega : j + 1 + (k - j) = k + 1) hown7 hg7)
                have hown8 : w7.ownsRow w3.heap.size 2 1 (.slice (some ⟨g2, 0, none⟩) (k + 1) cap2) (k + 1) (ints (wi ms x j)) := by
                  rw [show ints (wi ms x j) = ints (ms.take j ++ [x]) ++ ints (ms.drop j) by simp [ints, wi]]; exact hown7
                have hwl : (wi ms x j).length = k + 1 := by rw [wi_len HPUT.out.hk, HN.out]
                have HRW := Lib.hid (show Row w7 0 (some ⟨g2, 0, none⟩) (ints (wi ms x j)) from (Row.of_own hown8 (by decide)).weak (Nat.zero_le _))
                have HRL7 := Lib.hid (HRL.out.below HC3.out.be)
                have HB7 := Lib.hid (below_in HB.out HC3.out.be)
                clear hown7 hown8 hg7 hl1 HO6 HG6 HO7 HG7 HC2 HC3 HRD OW HC HRL HB HR3
                by_cases h64 : 64 < k + 1
                · have h4 := HPUT.out.e4 (by rw [HN.out]; exact h64)
                  have HST := steps_is T W (some ⟨g2, 0, none⟩) (wi ms x j) cap2 w7 HT.out HW.out (wi_I HX.out HXI.out) HRW.out (by rw [hwl]; omega) [] 4 ⟨stV_bad (by rw [h4]; decide), h4⟩
                  rw [hwl] at HST
                  have HST := Lib.hid HST
                  have h65 : (64 : Int) < (k : Int) + 1 := by omega
                  clear hwl h4
                  refine HST.out.mono ?_
                  rintro e w8 ⟨M, dm, rfl, _, _, hb⟩
                  have HB8 := Lib.hid (below_in HB7.out hb)
                  clear hb
                  go_wp2_with fail
                  go_ret
                  exact ⟨rfl, HB8.out⟩
                · have h0e := HPUT.out.e0 hW1 (by rw [HN.out]; exact h64)
                  have hboth := HPUT.out.both (T := T) (by rw [HN.out]; exact hjk)
                  have htake := HPUT.out.take (T := T)
                  have hdrop := HPUT.out.drop (T := T) (by rw [HN.out]; exact hjk)
                  have hvl := stL_len T W (wi ms x j)
                  have hvi := stL_I HT.out hW1 HPUT.out.ups
                  have hli := stL_I HT.out hW1 HU.out
                  have HST := steps_is T W (some ⟨g2, 0, none⟩) (wi ms x j) cap2 w7 HT.out HW.out (wi_I HX.out HXI.out) HRW.out (by rw [hwl]; omega) _ 0 ⟨stV_good h0e, h0e⟩
                  rw [HL.out] at hboth htake hdrop hli
                  rw [hwl] at HST hvl
                  generalize stL T W (wi ms x j) = V at *
                  have HST := Lib.hid HST
                  have HVL := Lib.hid hvl
                  have HTA := Lib.hid htake
                  have HDR := Lib.hid hdrop
                  refine HST.out.mono ?_
                  rintro e w8 ⟨M, dm, rfl, hrm, hcm, hb⟩
                  rw [HVL.out] at hcm ⊢
                  have HB8 := Lib.hid (below_in HB7.out hb)
                  have HRL8 := Lib.hid (HRL7.out.below hb)
                  have HRM := Lib.hid (hrm.weak (Nat.zero_le _))
                  obtain ⟨md, rfl, m1⟩ := int_cell HRM.out (j := j) (by rw [HVL.out]; omega)
                  obtain ⟨_, e1, m2⟩ := int_cell HRM.out (j := j + 1) (by rw [HVL.out]; omega)
                  cases e1
                  obtain ⟨_, e1, l1⟩ := int_cell HRL8.out (j := j) (by rw [HLN.out]; exact hjk)
                  cases e1
                  have hI := fun (X : List Int) (hX : ∀ y ∈ X, I64 y) i (hi : i < X.length) => (show I64 (X.getD i 0) by rw [List.getD_eq_getElem?_getD, List.getElem?_eq_getElem hi]; exact hX _ (List.getElem_mem _))
                  have i1 := hI V hvi j (by rw [HVL.out]; omega)
                  have i2 := hI V hvi (j + 1) (by rw [HVL.out]; omega)
                  have i3 := hI L hli j (by rw [HLN.out]; exact hjk)
                  generalize V.getD j 0 = p at *
                  generalize V.getD (j + 1) 0 = q at *
                  generalize L.getD j 0 = r at *
                  have HAD := Lib.hid (fun W' => show Calls Try.prog 25 #[.int .i64 p, .int .i64 q] W' (fun e w' => e = .returned (.tuple #[.int .i64 r, .int .i64 0]) ∧ w' = W') from (add_is p q W' i1 i2 r 0 (by unfold fitN fitE; rw [hboth, if_pos i3, if_pos i3]; exact ⟨rfl, rfl⟩)).mono (fun _ _ h => ⟨h.1, h.2.symm⟩))
                  clear hb hrm hI i1 i2 i3 hboth htake hdrop hvl hvi hli hwl h0e HST HRW HB7 HRL7
                  go_wp2_with fail
                  have wn : IntKind.i64.wrap ((j : Int) + 1) = (j : Int) + 1 := IntWalk.i64_in _ (by omega)
                  have g5 : (j : Int) < (k : Int) + 1 := by omega
                  have g6 : (0 : Int) ≤ (j : Int) + 1 := by omega
                  have g7 : (j : Int) + 1 < (k : Int) + 1 := by omega
                  have g8 : ((j : Int) + 1).toNat = j + 1 := by omega
                  have m2b : w8.cell? { md with off := md.off + (j + 1), spot := none } = some (.int .i64 q) := by rw [← Addr.add_succ']; exact m2
                  go_quiet ((go_at_call 25; exact Calls.quiet_of_same (HAD.out _)))
                  have HRM9 := Lib.hid (row_dn HRM.out nq)
                  have HRL9 := Lib.hid (row_dn HRL8.out nq)
                  have HB9 := Lib.hid (below_in HB8.out (Quiet.below ⟨nq, rfl⟩))
                  have l2 : (w8.drewN nq).cell? (ld.add j) = some (.int .i64 r) := l1
                  clear m1 m2 m2b l1 HRM HRL8 HB8 HAD wn
                  generalize w8.drewN nq = wo at HRM9 HRL9 HB9 l2 ⊢
                  have q1 : (V.take j).length = j := by rw [List.length_take, HVL.out]; omega
                  have q2 : (L.take j).length = j := by rw [List.length_take, HLN.out]; omega
                  have q3 : (V.drop (j + 2)).length = k - (j + 1) := by rw [List.length_drop, HVL.out]; omega
                  have q4 : (L.drop (j + 1)).length = k - (j + 1) := by rw [List.length_drop, HLN.out]
                  have HS1 := Lib.hid (fun q c1 c2 => same_q (some md) (some ld) (V.take j) (L.take j) c1 c2 (wo.drewN q) (row_take (row_dn HRM9.out q) j) (row_take (row_dn HRL9.out q) j) (by omega) (by omega) true (by rw [HTA.out]; simp))
                  have HS2 := Lib.hid (fun q A' B' n1 n2 c1 c2 (h1 : Row (wo.drewN q) 0 A' (ints (V.drop (j + 2)))) (h2 : Row (wo.drewN q) 0 B' (ints (L.drop (j + 1)))) (h3 : n1 = k - (j + 1)) (h4 : n2 = k - (j + 1)) => (show Calls Try.prog 21 #[.slice A' n1 c1, .slice B' n2 c2] (wo.drewN q) (fun e w' => e = .returned (.bool true) ∧ ∃ m, w' = (wo.drewN q).drewN m) by
                    have := same_q A' B' (V.drop (j + 2)) (L.drop (j + 1)) c1 c2 (wo.drewN q) h1 h2 (by omega) (by omega) true (by rw [HDR.out]; simp)
                    rw [q3, q4] at this
                    rw [h3, h4]; exact this))
                  rw [q1, q2] at HS1
                  have RM2 := Lib.hid (fun q => row_drop (row_dn HRM9.out q) (j + 2))
                  have RL2 := Lib.hid (fun q => row_drop (row_dn HRL9.out q) (j + 1))
                  have RM3 := Lib.hid (fun q => show Row (wo.drewN q) 0 (some { md with off := md.off + (j + 2), spot := none }) (ints (V.drop (j + 2))) by have := RM2.out q; rw [Addr.add_succ'] at this; exact this)
                  have RL3 := Lib.hid (fun q => show Row (wo.drewN q) 0 (some { ld with off := ld.off + (j + 1), spot := none }) (ints (L.drop (j + 1))) by have := RL2.out q; rw [Addr.add_succ'] at this; exact this)
                  have wn1 : IntKind.i64.wrap ((j : Int) + 1) = (j : Int) + 1 := IntWalk.i64_in _ (by omega)
                  have wn2 : IntKind.i64.wrap ((j : Int) + 2) = (j : Int) + 2 := IntWalk.i64_in _ (by omega)
                  have f1 : (0 : Int) ≤ (j : Int) + 2 := by omega
                  have f2 : (j : Int) + 2 ≤ (k : Int) + 1 := by omega
                  have f3 : (j : Int) + 1 ≤ (k : Int) := by omega
                  have f4 : (j : Int) ≤ (dm : Int) := by omega
                  have f5 : (j : Int) ≤ (d : Int) := by omega
                  have f6 : ((j : Int) + 2).toNat = j + 2 := by omega
                  clear q1 q2 q3 q4
                  have hem : dm = j + 2 → ∀ q A', Row (wo.drewN q) 0 A' (ints (V.drop (j + 2))) := fun e q A' hn => by
                    rw [ints_len, List.length_drop, HVL.out] at hn; omega
                  have hel : d = j + 1 → ∀ q A', Row (wo.drewN q) 0 A' (ints (L.drop (j + 1))) := fun e q A' hn => by
                    rw [ints_len, List.length_drop, HLN.out] at hn; omega
                  have HEM := Lib.hid hem
                  have HEL := Lib.hid hel
                  clear hem hel
                  by_cases ed : dm = j + 2
                  · have RM0 := Lib.hid (HEM.out ed)
                    by_cases ec : d = j + 1
                    · have RL0 := Lib.hid (HEL.out ec)
                      go_wp2_with fail
                      go_quiet ((first | (go_at_call 21; with_reducible exact Calls.quiet_of (HS1.out _ _ _)) | (go_at_call 21; refine Calls.quiet_of (HS2.out _ _ _ _ _ _ _ ?_ ?_ ?_ ?_) <;> first | omega | (with_reducible exact RM0.out _ _) | (with_reducible exact RM2.out _) | (with_reducible exact RM3.out _) | (with_reducible exact RL0.out _ _) | (with_reducible exact RL2.out _) | (with_reducible exact RL3.out _))))
                      go_wp2_with fail
                      go_ret
                      exact ⟨rfl, below_in HB9.out (Quiet.below ⟨nq, rfl⟩)⟩
                    · skip
                      go_wp2_with fail
                      go_quiet ((first | (go_at_call 21; with_reducible exact Calls.quiet_of (HS1.out _ _ _)) | (go_at_call 21; refine Calls.quiet_of (HS2.out _ _ _ _ _ _ _ ?_ ?_ ?_ ?_) <;> first | omega | (with_reducible exact RM0.out _ _) | (with_reducible exact RM2.out _) | (with_reducible exact RM3.out _) | (with_reducible exact RL0.out _ _) | (with_reducible exact RL2.out _) | (with_reducible exact RL3.out _))))
                      go_wp2_with fail
                      go_ret
                      exact ⟨rfl, below_in HB9.out (Quiet.below ⟨nq, rfl⟩)⟩
                  · by_cases ec : d = j + 1
                    · have RL0 := Lib.hid (HEL.out ec)
                      go_wp2_with fail
                      go_quiet ((first | (go_at_call 21; with_reducible exact Calls.quiet_of (HS1.out _ _ _)) | (go_at_call 21; refine Calls.quiet_of (HS2.out _ _ _ _ _ _ _ ?_ ?_ ?_ ?_) <;> first | omega | (with_reducible exact RM0.out _ _) | (with_reducible exact RM2.out _) | (with_reducible exact RM3.out _) | (with_reducible exact RL0.out _ _) | (with_reducible exact RL2.out _) | (with_reducible exact RL3.out _))))
                      go_wp2_with fail
                      go_ret
                      exact ⟨rfl, below_in HB9.out (Quiet.below ⟨nq, rfl⟩)⟩
                    · skip
                      go_wp2_with fail
                      go_quiet ((first | (go_at_call 21; with_reducible exact Calls.quiet_of (HS1.out _ _ _)) | (go_at_call 21; refine Calls.quiet_of (HS2.out _ _ _ _ _ _ _ ?_ ?_ ?_ ?_) <;> first | omega | (with_reducible exact RM0.out _ _) | (with_reducible exact RM2.out _) | (with_reducible exact RM3.out _) | (with_reducible exact RL0.out _ _) | (with_reducible exact RL2.out _) | (with_reducible exact RL3.out _))))
                      go_wp2_with fail
                      go_ret
                      exact ⟨rfl, below_in HB9.out (Quiet.below ⟨nq, rfl⟩)⟩
            · obtain rfl : j = k := by omega
              have HPUT := Lib.hid (show Put ms W x j from ⟨by rw [HN.out]; exact Nat.le_refl _, HU.out, hx0, hxW, HLE.out, fun h => by rw [HN.out] at h; omega⟩)
              have HDE := Lib.hid (show ms.drop j = [] from List.drop_of_length_le (by rw [HN.out]; exact Nat.le_refl _))
              by_cases hcj : c = j
              · skip
                go_wp2_with (at_builtin; first | (refine wpList_app E_i64 rfl (.tmp 111) (.tmp 113) rfl rfl (OW.out.alloc _) ⟨wr.heap.size, 0, none⟩ 1 1 [.int .i64 x] rfl rfl (cell_one_new _ _ _) (one_cell _ _) hb1' hb2' (by simp; omega) (by decide) ?_; intro g cap w6 hown6 hg6 hat6; have HO6 := Lib.hid hown6; have HG6 := Lib.hid hg6; clear hown6 hg6 hat6) | (refine wpList_app0 E_i64 rfl (.tmp 115) (.tmp 118) rfl rfl rfl (own_cap HO6.out) ?_))
                have HC2 := Lib.hid (HC.out.step (x := x) (by rw [HTL.out]; exact HO6.out) (by have := HG6.out; exact this))
                have hown8 : w6.ownsRow w3.heap.size 2 1 (.slice (some ⟨g, 0, none⟩) (j + 1) cap) (j + 1) (ints (wi ms x j)) := by
                  rw [show ints (wi ms x j) = ints (ms.take j) ++ [.int .i64 x] by simp [ints, wi, HDE.out]]; exact HO6.out
                have hwl : (wi ms x j).length = j + 1 := by rw [wi_len HPUT.out.hk, HN.out]
                have HRW := Lib.hid (show Row w6 0 (some ⟨g, 0, none⟩) (ints (wi ms x j)) from (Row.of_own hown8 (by decide)).weak (Nat.zero_le _))
                have HRL7 := Lib.hid (HRL.out.below HC2.out.be)
                have HB7 := Lib.hid (below_in HB.out HC2.out.be)
                clear hown8 HO6 HG6 HC2 OW HC HRL HB HR3
                by_cases h64 : 64 < j + 1
                · have h4 := HPUT.out.e4 (by rw [HN.out]; exact h64)
                  have HST := steps_is T W (some ⟨g, 0, none⟩) (wi ms x j) cap w6 HT.out HW.out (wi_I HX.out HXI.out) HRW.out (by rw [hwl]; omega) [] 4 ⟨stV_bad (by rw [h4]; decide), h4⟩
                  rw [hwl] at HST
                  have HST := Lib.hid HST
                  have h65 : (64 : Int) < (j : Int) + 1 := by omega
                  clear hwl h4
                  refine HST.out.mono ?_
                  rintro e w8 ⟨M, dm, rfl, _, _, hb⟩
                  have HB8 := Lib.hid (below_in HB7.out hb)
                  clear hb
                  go_wp2_with fail
                  go_ret
                  exact ⟨rfl, HB8.out⟩
                · have h0e := HPUT.out.e0 hW1 (by rw [HN.out]; exact h64)
                  have htake := HPUT.out.take (T := T)
                  have hvl := stL_len T W (wi ms x j)
                  have HST := steps_is T W (some ⟨g, 0, none⟩) (wi ms x j) cap w6 HT.out HW.out (wi_I HX.out HXI.out) HRW.out (by rw [hwl]; omega) _ 0 ⟨stV_good h0e, h0e⟩
                  rw [HL.out, List.take_of_length_le (show L.length ≤ j by rw [HLN.out]; exact Nat.le_refl _)] at htake
                  rw [hwl] at HST hvl
                  generalize stL T W (wi ms x j) = V at *
                  have HST := Lib.hid HST
                  have HVL := Lib.hid hvl
                  have HTA := Lib.hid htake
                  refine HST.out.mono ?_
                  rintro e w8 ⟨M, dm, rfl, hrm, hcm, hb⟩
                  rw [HVL.out] at hcm ⊢
                  have HB8 := Lib.hid (below_in HB7.out hb)
                  have HRL8 := Lib.hid (HRL7.out.below hb)
                  have HRM := Lib.hid (hrm.weak (Nat.zero_le _))
                  obtain ⟨md, rfl, _⟩ := int_cell HRM.out (j := 0) (by rw [HVL.out]; omega)
                  have f4 : (j : Int) ≤ (dm : Int) := by omega
                  have q1 : (V.take j).length = j := by rw [List.length_take, HVL.out]; omega
                  have HS1 := fun c1 c2 => same_any (some md) (some ld) (V.take j) L c1 c2 w8 (row_take HRM.out j) HRL8.out (by omega) (by rw [HLN.out]; omega) true (by rw [HTA.out]; simp)
                  rw [q1, HLN.out] at HS1
                  have HS1 := Lib.hid HS1
                  clear hb hrm htake hvl hwl h0e HST HRW HB7 HRL7 q1
                  go_wp2_with fail
                  refine (HS1.out _ _).mono ?_
                  rintro e w9 ⟨rfl, hb⟩
                  have HB9 := Lib.hid (below_in HB8.out hb)
                  clear hb
                  go_wp2_with fail
                  go_ret
                  exact ⟨rfl, HB9.out⟩
              · skip
                go_wp2_with (at_builtin; first | (refine wpList_app E_i64 rfl (.tmp 111) (.tmp 113) rfl rfl (OW.out.alloc _) ⟨wr.heap.size, 0, none⟩ 1 1 [.int .i64 x] rfl rfl (cell_one_new _ _ _) (one_cell _ _) hb1' hb2' (by simp; omega) (by decide) ?_; intro g cap w6 hown6 hg6 hat6; have HO6 := Lib.hid hown6; have HG6 := Lib.hid hg6; clear hown6 hg6 hat6) | (refine wpList_app0 E_i64 rfl (.tmp 115) (.tmp 118) rfl rfl rfl (own_cap HO6.out) ?_))
                have HC2 := Lib.hid (HC.out.step (x := x) (by rw [HTL.out]; exact HO6.out) (by have := HG6.out; exact this))
                have hown8 : w6.ownsRow w3.heap.size 2 1 (.slice (some ⟨g, 0, none⟩) (j + 1) cap) (j + 1) (ints (wi ms x j)) := by
                  rw [show ints (wi ms x j) = ints (ms.take j) ++ [.int .i64 x] by simp [ints, wi, HDE.out]]; exact HO6.out
                have hwl : (wi ms x j).length = j + 1 := by rw [wi_len HPUT.out.hk, HN.out]
                have HRW := Lib.hid (show Row w6 0 (some ⟨g, 0, none⟩) (ints (wi ms x j)) from (Row.of_own hown8 (by decide)).weak (Nat.zero_le _))
                have HRL7 := Lib.hid (HRL.out.below HC2.out.be)
                have HB7 := Lib.hid (below_in HB.out HC2.out.be)
                clear hown8 HO6 HG6 HC2 OW HC HRL HB HR3
                by_cases h64 : 64 < j + 1
                · have h4 := HPUT.out.e4 (by rw [HN.out]; exact h64)
                  have HST := steps_is T W (some ⟨g, 0, none⟩) (wi ms x j) cap w6 HT.out HW.out (wi_I HX.out HXI.out) HRW.out (by rw [hwl]; omega) [] 4 ⟨stV_bad (by rw [h4]; decide), h4⟩
                  rw [hwl] at HST
                  have HST := Lib.hid HST
                  have h65 : (64 : Int) < (j : Int) + 1 := by omega
                  clear hwl h4
                  refine HST.out.mono ?_
                  rintro e w8 ⟨M, dm, rfl, _, _, hb⟩
                  have HB8 := Lib.hid (below_in HB7.out hb)
                  clear hb
                  go_wp2_with fail
                  go_ret
                  exact ⟨rfl, HB8.out⟩
                · have h0e := HPUT.out.e0 hW1 (by rw [HN.out]; exact h64)
                  have htake := HPUT.out.take (T := T)
                  have hvl := stL_len T W (wi ms x j)
                  have HST := steps_is T W (some ⟨g, 0, none⟩) (wi ms x j) cap w6 HT.out HW.out (wi_I HX.out HXI.out) HRW.out (by rw [hwl]; omega) _ 0 ⟨stV_good h0e, h0e⟩
                  rw [HL.out, List.take_of_length_le (show L.length ≤ j by rw [HLN.out]; exact Nat.le_refl _)] at htake
                  rw [hwl] at HST hvl
                  generalize stL T W (wi ms x j) = V at *
                  have HST := Lib.hid HST
                  have HVL := Lib.hid hvl
                  have HTA := Lib.hid htake
                  refine HST.out.mono ?_
                  rintro e w8 ⟨M, dm, rfl, hrm, hcm, hb⟩
                  rw [HVL.out] at hcm ⊢
                  have HB8 := Lib.hid (below_in HB7.out hb)
                  have HRL8 := Lib.hid (HRL7.out.below hb)
                  have HRM := Lib.hid (hrm.weak (Nat.zero_le _))
                  obtain ⟨md, rfl, _⟩ := int_cell HRM.out (j := 0) (by rw [HVL.out]; omega)
                  have f4 : (j : Int) ≤ (dm : Int) := by omega
                  have q1 : (V.take j).length = j := by rw [List.length_take, HVL.out]; omega
                  have HS1 := fun c1 c2 => same_any (some md) (some ld) (V.take j) L c1 c2 w8 (row_take HRM.out j) HRL8.out (by omega) (by rw [HLN.out]; omega) true (by rw [HTA.out]; simp)
                  rw [q1, HLN.out] at HS1
                  have HS1 := Lib.hid HS1
                  clear hb hrm htake hvl hwl h0e HST HRW HB7 HRL7 q1
                  go_wp2_with fail
                  refine (HS1.out _ _).mono ?_
                  rintro e w9 ⟨rfl, hb⟩
                  have HB9 := Lib.hid (below_in HB8.out hb)
                  clear hb
                  go_wp2_with fail
                  go_ret
                  exact ⟨rfl, HB9.out⟩
theorem steps_walk (T : Int) (A : Option Addr) (ms : List Int) (c : Nat) (W x : Int) (w : World) (hT : I64 T) (hx : ∀ x ∈ ms, I64 x) (hr : Row w 0 A (ints ms)) (hl : ms.length * 8 ≤ 140737488351232 ∧ ms.length ≤ c) (hW : I64 W) (hxx : I64 x) :
    Calls Try.prog 10 #[.int .i64 T, .slice A ms.length c, .int .i64 W, .int .i64 x] w fun e w' => e = .returned (.bool true) ∧ Below w.heap.size w w' := by
  by_cases h : 70 < ms.length
  · exact steps_out T A ms.length c W x w h (by omega)
  · by_cases hE : stE W ms = 0
    · exact steps_ok T A ms c W x w hT hW hxx hx hr (by omega) hl.2 hE
    · exact steps_bad T A ms c W x w hT hW hx hr (by omega) hE
end Go.Proofs.Ytejkamgidhpcjaa.PO
