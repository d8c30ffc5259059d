/- The walk of portion.Steps. -/
import Derived.Test.YtejkamgidhpcjaaPortionB
import Derived.Test.YtejkamgidhpcjaaStepsMath
import Derived.Test.YtejkamgidhpcjaaConsiderB
namespace Go.Proofs.Ytejkamgidhpcjaa.PO
open Go.RowKit Go.Proofs.Ytejkamgidhpcjaa.Cents Go.Proofs.Ytejkamgidhpcjaa.CO
set_option linter.unusedVariables false
set_option linter.unusedSimpArgs false

set_option maxHeartbeats 2000000 in
set_option maxRecDepth 100000 in
theorem steps_any (T W : Int) (A : Option Addr) (ms : List Int) (c : Nat) (w : World) (hT : I64 T) (hW : I64 W) (hx : ∀ x ∈ ms, I64 x) (hr : Row w 0 A (ints ms)) (hl : ms.length * 8 ≤ 140737488351232) :
    Calls Try.prog 19 #[.int .i64 T, .slice A ms.length c, .int .i64 W] w (RetL w (stV T W ms) (stE W ms)) := by
  have HR := Lib.hid hr
  have HX := Lib.hid hx
  have HT := Lib.hid hT
  have HW := Lib.hid hW
  obtain ⟨E, hE⟩ : ∃ E, stE W ms = E := ⟨_, rfl⟩
  obtain ⟨V, hV⟩ : ∃ V, stV T W ms = V := ⟨_, rfl⟩
  unfold stV at hV
  rw [hE] at hV
  rw [hE, show stV T W ms = V by unfold stV; rw [hE]; exact hV]
  have HE := Lib.hid hE
  have HV := Lib.hid hV
  obtain ⟨n, hn⟩ : ∃ n, ms.length = n := ⟨_, rfl⟩
  have HN := Lib.hid hn
  rw [hn] at hl ⊢
  have hne : ∀ e, stE W ms = e → e ≠ 0 → V = [] ∧ E = e := fun e h1 h2 => by
    have h3 := HE.out
    have h4 := HV.out
    rw [h1] at h3
    subst h3
    rw [if_neg h2] at h4
    exact ⟨h4.symm, rfl⟩
  have HNE := Lib.hid hne
  clear hr hx hT hW hE hV hn hne
  by_cases h1 : 64 < n
  · obtain ⟨rfl, rfl⟩ := HNE.out 4 (by unfold stE; rw [HN.out, if_pos h1]) (by decide)
    have h2 : decide ((64 : Int) < (n : Int)) = true := by simp; omega
    go_enter Try.func19, Try.ntmps19
    go_wp2_with fail
    go_ret2
    exact ⟨none, 0, rfl, Row.none_, by simp, Below.refl _ _⟩
  have h2 : decide ((64 : Int) < (n : Int)) = false := by simp; omega
  by_cases h3 : W < 1
  · obtain ⟨rfl, rfl⟩ := HNE.out 1 (by unfold stE; rw [HN.out, if_neg h1, if_pos h3]) (by decide)
    go_enter Try.func19, Try.ntmps19
    go_wp2_with fail
    go_ret2
    exact ⟨none, 0, rfl, Row.none_, by simp, Below.refl _ _⟩
  go_enter Try.func19, Try.ntmps19
  go_wp2_with fail
  go_loop [8, 25] (fun l i => ∃ (k : Nat) (p : Int), l = .int .i64 p ∧ i = .int .i64 (k : Int) ∧ k ≤ n ∧ p = prv ms k ∧ (∀ i, i < k → Up ms W i)) (fun _ i => n - (intOf i).toNat)
  case atStart => exact ⟨0, 0, rfl, rfl, by omega, by rw [prv_zero], fun i hi => by omega⟩
  case round =>
    obtain ⟨k, p, rfl, rfl, hk, hp, hup⟩ := hrel
    have HUP := Lib.hid hup
    have HP := Lib.hid hp
    clear hup hp
    have g0 : (0 : Int) ≤ (k : Int) := Int.natCast_nonneg _
    by_cases hlt : k < n
    · obtain ⟨ad, rfl, c0⟩ := int_cell HR.out (j := k) (by rw [HN.out]; exact hlt)
      have g1 : (k : Int) < (n : Int) := by omega
      obtain ⟨m, hm⟩ : ∃ m, ms.getD k 0 = m := ⟨_, rfl⟩
      rw [hm] at c0
      have HM := Lib.hid hm
      clear hm
      by_cases hu : p ≤ m ∧ m ≤ W
      · obtain ⟨hu1, hu2⟩ := hu
        go_wp2_with fail
        go_round
        case rel =>
          refine ⟨k + 1, m, rfl, by go_num, by omega, by rw [prv_succ, HM.out], fun i hi => ?_⟩
          rcases Nat.lt_or_ge i k with c | c
          · exact HUP.out i c
          · rw [show i = k by omega]; unfold Up; rw [HM.out, ← HP.out]; exact ⟨hu1, hu2⟩
        case measure => simp [intOf]; omega
      · obtain ⟨rfl, rfl⟩ := HNE.out 1 (stE_down (k := k) (by rw [HN.out]; omega) (by omega) (by rw [HN.out]; exact hlt) (by unfold Up; rw [HM.out, ← HP.out]; exact hu)) (by decide)
        by_cases hmp : m < p
        · go_wp2_with fail
          go_ret2
          exact ⟨none, 0, rfl, Row.none_, by simp, Below.refl _ _⟩
        · have hmw : W < m := by omega
          go_wp2_with fail
          go_ret2
          exact ⟨none, 0, rfl, Row.none_, by simp, Below.refl _ _⟩
    · obtain rfl : k = n := by omega
      have hE0 : stE W ms = 0 := stE_up (by rw [HN.out]; omega) (by omega) (by rw [HN.out]; exact HUP.out)
      have hE1 := HE.out
      rw [hE0] at hE1
      have hV1 := HV.out
      subst hE1
      rw [if_pos rfl] at hV1
      subst hV1
      clear hE0
      have HUQ := HUP
      clear HE HV HNE HUP HP
      go_wp2_with fail
      have HC := Lib.hid (AllW.mk (w0 := w) (out := []) (v := .slice none 0 0) (World.ownsRow_nil _ _ _ _) (Below.refl _ _))
      go_loopw [11, 12, 41] (fun v a i wr => ∃ (j : Nat) (p : Int) (B : Option Addr) (cb : Nat), v = .slice B j cb ∧ a = .int .i64 p ∧ i = .int .i64 (j : Int) ∧ j ≤ k ∧ p = T * prv ms j / W ∧ AllW w ((stL T W ms).take j) v wr) (fun _ _ i _ => k - (intOf i).toNat)
      case atStart => exact ⟨0, 0, none, 0, rfl, rfl, rfl, by omega, by rw [prv_zero]; simp, by simpa using HC.out⟩
      case round =>
        clear HC
        obtain ⟨j, p, B, cb, rfl, rfl, rfl, hj, hp, hc⟩ := hrel
        have HC := Lib.hid hc
        have HP := Lib.hid hp
        clear hc hp
        have g2 : (0 : Int) ≤ (j : Int) := Int.natCast_nonneg _
        by_cases hjk : j < k
        · obtain ⟨ad, rfl, c0⟩ := int_cell (HR.out.below HC.out.be) (j := j) (by rw [HN.out]; exact hjk)
          have g3 : (j : Int) < (k : Int) := by omega
          have hjl : j < ms.length := by rw [HN.out]; exact hjk
          have hxm : I64 (ms.getD j 0) := by
            rw [List.getD_eq_getElem?_getD, List.getElem?_eq_getElem hjl]; exact HX.out _ (List.getElem_mem _)
          have hpp := up_pos HUQ.out j (by omega)
          have hum := HUQ.out j hjk
          unfold Up at hum
          have hcut := cuts HT.out (show 1 ≤ W by omega) hpp hum.1 hum.2
          have hpo := part_ok (a := T) (p := ms.getD j 0) (m := W) HT.out (by omega) (by omega) hum.2
          have htk := stL_take (T := T) (W := W) hjl
          have hlt2 : ((stL T W ms).take j).length = j := by rw [List.length_take, stL_len]; omega
          obtain ⟨him, hip, hid, _, _⟩ := hcut
          rw [← HP.out] at hip hid htk
          obtain ⟨m, hm⟩ : ∃ m, ms.getD j 0 = m := ⟨_, rfl⟩
          rw [hm] at c0 hxm hpo him hid htk
          obtain ⟨x, hx⟩ : ∃ x, T * m / W = x := ⟨_, rfl⟩
          rw [hx] at hpo him hid htk
          have HXM := Lib.hid hxm
          have HPO := Lib.hid hpo
          have HLE := Lib.hid (fun W' => less_yes x p W' him hip hid)
          have HTK := Lib.hid htk
          have HTL := Lib.hid hlt2
          have HM := Lib.hid hm
          have HXX := Lib.hid hx
          have hb1' : (j + 1) * 8 ≤ 140737488355328 := by omega
          have hb2' : j + 1 ≤ maxLen := by unfold maxLen; omega
          have hsz : w.heap.size ≤ wr.heap.size := HC.out.be.size
          clear hxm hpp hum hpo htk hlt2 hm hx him hip hid hjl
          go_wp2_with fail
          refine (part_is T m W x 0 _ HT.out HXM.out HW.out HPO.out).mono ?_
          rintro e w3 ⟨rfl, q3, rfl⟩
          go_wp2_with fail
          refine (HLE.out _).mono ?_
          rintro e w4 ⟨rfl, rfl⟩
          have HC2 := Lib.hid (HC.out.drewN q3)
          have OW := Lib.hid (show (wr.drewN q3).ownsRow w.heap.size 2 1 (.slice B j cb) j (ints ((stL T W ms).take j)) by have := HC2.out.own; rw [HTL.out] at this; exact this)
          generalize wr.drewN q3 = w5 at HC2 OW ⊢
          have hsz : w.heap.size ≤ w5.heap.size := HC2.out.be.size
          go_wp2_with (at_builtin; refine wpList_app E_i64 rfl (.tmp 64) (.tmp 66) rfl rfl (OW.out.alloc _) ⟨w5.heap.size, 0, none⟩ 1 1 [.int .i64 (x - p)] rfl rfl (cell_one_new _ _ _) (one_cell _ _) hb1' hb2' (by simp; omega) (by decide) ?_; intro g cap w6 hown6 hg6 hat6; have HO6 := Lib.hid hown6; have HG6 := Lib.hid hg6; clear hown6 hg6 hat6)
          go_roundw
          case rel =>
            refine ⟨j + 1, x, _, _, rfl, rfl, by go_num, by omega, by rw [prv_succ, HM.out, HXX.out], ?_⟩
            rw [HTK.out]
            exact HC2.out.step (by rw [HTL.out]; exact HO6.out) (by have := HG6.out; exact this)
          case measure => simp only [intOf]; omega
        · obtain rfl : j = k := by omega
          go_wp2_with fail
          go_ret2
          have htk : (stL T W ms).take j = stL T W ms := List.take_of_length_le (by rw [stL_len, HN.out]; exact Nat.le_refl _)
          have hlen : (stL T W ms).length = j := by rw [stL_len, HN.out]
          have hb := HC.out.be
          have ho := HC.out.own
          rw [htk] at ho
          rw [hlen] at ho
          refine ⟨B, cb, by rw [hlen]; rfl, Row.of_own ho (by decide), ?_, hb⟩
          rw [hlen]
          rcases ho.2 with ⟨_, h4⟩ | ⟨g, cap, cur, h4, _, _, h5, _⟩
          · omega
          · cases h4; exact h5
end Go.Proofs.Ytejkamgidhpcjaa.PO
