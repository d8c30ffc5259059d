/- The walk of quitrentref02.Same. -/
import Derived.Test.YtkceeifhnohioaaSteps
namespace Go.Proofs.Ytkceeifhnohioaa.PO
open Go.RowKit Go.Proofs.Ytkceeifhnohioaa.Cents Go.Proofs.Ytkceeifhnohioaa.CO
set_option linter.unusedVariables false
set_option linter.unusedSimpArgs false

theorem list_diff {xs ys : List Int} {n k : Nat} (h1 : xs.length = n) (h2 : ys.length = n) (hk : k < n) (hd : xs.getD k 0 ≠ ys.getD k 0) : xs ≠ ys := fun e => hd (by rw [e])
theorem quiet_drew {w w' : World} (h : Quiet w w') : Quiet w w'.drew := by
  obtain ⟨q, rfl⟩ := h
  exact ⟨q + 1, rfl⟩
set_option maxHeartbeats 1000000 in
set_option maxRecDepth 100000 in
theorem same_q (A B : Option Addr) (xs ys : List Int) (c d : Nat) (w : World) (hx : Row w 0 A (ints xs)) (hy : Row w 0 B (ints ys)) (hlx : xs.length ≤ 1000000) (hly : ys.length ≤ 1000000) (b : Bool) (hb : decide (xs = ys) = b) :
    Calls Try.prog 16 #[.slice A xs.length c, .slice B ys.length d] w fun e w' => e = .returned (.bool b) ∧ ∃ q, w' = w.drewN q := by
  have HX := Lib.hid hx
  have HY := Lib.hid hy
  have HB := Lib.hid hb
  obtain ⟨n, hn⟩ : ∃ n, xs.length = n := ⟨_, rfl⟩
  obtain ⟨m, hm⟩ : ∃ m, ys.length = m := ⟨_, rfl⟩
  have HN := Lib.hid hn
  have HM := Lib.hid hm
  rw [hn] at hlx ⊢
  rw [hm] at hly ⊢
  clear hx hy hb hn hm
  by_cases hnm : n = m
  · subst hnm
    go_enter Try.func16, Try.ntmps16
    go_wp2_with fail
    go_loopw [5] (fun i wr => ∃ k : Nat, i = .int .i64 (k : Int) ∧ k ≤ n ∧ (∀ j, j < k → xs.getD j 0 = ys.getD j 0) ∧ Quiet w wr) (fun i _ => n - (intOf i).toNat)
    case atStart => exact ⟨0, rfl, by omega, fun j hj => by omega, ⟨0, rfl⟩⟩
    case round =>
      obtain ⟨k, rfl, hk, he, hbw⟩ := hrel
      have HE := Lib.hid he
      have HBW := Lib.hid hbw
      clear he hbw
      have g0 : (0 : Int) ≤ (k : Int) := Int.natCast_nonneg _
      by_cases hlt : k < n
      · obtain ⟨ad, rfl, c0⟩ := int_cell (HX.out.below (Quiet.below HBW.out)) (j := k) (by rw [HN.out]; exact hlt)
        obtain ⟨bd, rfl, c1⟩ := int_cell (HY.out.below (Quiet.below HBW.out)) (j := k) (by rw [HM.out]; exact hlt)
        have g1 : (k : Int) < (n : Int) := by omega
        obtain ⟨x, hx⟩ : ∃ x, xs.getD k 0 = x := ⟨_, rfl⟩
        obtain ⟨y, hy⟩ : ∃ y, ys.getD k 0 = y := ⟨_, rfl⟩
        rw [hx] at c0
        rw [hy] at c1
        have HXX := Lib.hid hx
        have HYY := Lib.hid hy
        clear hx hy
        by_cases hxy : x = y
        · subst hxy
          go_wp2_with fail
          go_region_with fail
          all_goals
            go_wp2_with fail
            go_roundw
            case rel =>
              refine ⟨k + 1, by go_num, by omega, fun j hj => ?_, quiet_drew HBW.out⟩
              rcases Nat.lt_or_ge j k with c | c
              · exact HE.out j c
              · rw [show j = k by omega, HXX.out, HYY.out]
            case measure => simp only [intOf]; omega
        · have hd : xs ≠ ys := list_diff HN.out HM.out hlt (by rw [HXX.out, HYY.out]; exact hxy)
          have hb : b = false := by rw [← HB.out]; simpa using hd
          have hxy2 : decide (x = y) = false := by simpa using hxy
          subst hb
          clear hd
          go_wp2_with fail
          go_region_with fail
          all_goals
            go_wp2_with fail
            go_ret
            exact ⟨rfl, quiet_drew HBW.out⟩
      · obtain rfl : k = n := by omega
        have hd : xs = ys := getD_take_end HM.out HN.out (fun i hi => HE.out i hi)
        have hb : b = true := by rw [← HB.out]; simpa using hd
        subst hb
        clear hd
        go_wp2_with fail
        go_ret
        exact ⟨rfl, HBW.out⟩
  · have hd : xs ≠ ys := fun e => by apply hnm; rw [← HN.out, ← HM.out, e]
    have hb : b = false := by rw [← HB.out]; simpa using hd
    have hnm2 : (n : Int) ≠ (m : Int) := by omega
    subst hb
    clear hd
    go_enter Try.func16, Try.ntmps16
    go_wp2_with fail
    go_ret
    exact ⟨rfl, 0, rfl⟩
theorem same_any (A B : Option Addr) (xs ys : List Int) (c d : Nat) (w : World) (hx : Row w 0 A (ints xs)) (hy : Row w 0 B (ints ys)) (hlx : xs.length ≤ 1000000) (hly : ys.length ≤ 1000000) (b : Bool) (hb : decide (xs = ys) = b) :
    Calls Try.prog 16 #[.slice A xs.length c, .slice B ys.length d] w fun e w' => e = .returned (.bool b) ∧ Below w.heap.size w w' :=
  (same_q A B xs ys c d w hx hy hlx hly b hb).mono fun _ _ ⟨h1, h2⟩ => ⟨h1, Quiet.below h2⟩
end Go.Proofs.Ytkceeifhnohioaa.PO
