/- The walk of the reference's Same, of equal lists. -/
import Derived.Test.YtjiphalannmcnaaDoorRecD
namespace Go.Proofs.YtjiphalannmcnaaDoor.REC
open Go.RowKit
set_option linter.unusedVariables false
set_option linter.unusedSimpArgs false

theorem str_at {w : World} {A : Option Addr} {xs : List ByteArray} (hr : Row w 0 A (strsR xs)) {j : Nat} (h : j < xs.length) : ∃ ad, A = some ad ∧ w.cell? (ad.add j) = some (.string xs[j]) := by
  obtain ⟨ad, e, _, hc⟩ := hr.at_ (k := j) (by simp [strsR]; exact h)
  refine ⟨ad, e, ?_⟩
  rw [hc]
  simp [strsR]
set_option maxHeartbeats 1000000 in
set_option maxRecDepth 100000 in
theorem same_eq (A B : Option Addr) (xs : List ByteArray) (n ca cb : Nat) (w : World) (hA : Row w 0 A (strsR xs)) (hB : Row w 0 B (strsR xs)) (hn : xs.length = n) (hl : n ≤ 100000) :
    Calls Tryd.prog 16 #[.slice A n ca, .slice B n cb] w fun e w' => e = .returned (.bool true) ∧ ∃ m, w' = w.drewN m := by
  have HA := Lib.hid hA
  have HB := Lib.hid hB
  have HN := Lib.hid hn
  clear hA hB hn
  go_enter Tryd.func16, Tryd.ntmps16
  go_wp2_with fail
  go_loopw [5] (fun v wr => ∃ k : Nat, v = .int .i64 (k : Int) ∧ k ≤ n ∧ ∃ q, wr = w.drewN q) (fun v _ => n - (intOf v).toNat)
  case atStart => exact ⟨0, rfl, by omega, 0, by first | rfl | simp⟩
  case round =>
    obtain ⟨k, rfl, hk, q, hq⟩ := hrel
    have HQ := Lib.hid hq
    have k0 : (0 : Int) ≤ (k : Int) := Int.natCast_nonneg _
    by_cases hlt : k < n
    · obtain ⟨ad, rfl, z0⟩ := str_at (w := wr) (by rw [hq]; exact HA.out.drewN q) (j := k) (by rw [HN.out]; exact hlt)
      obtain ⟨bd, rfl, z1⟩ := str_at (w := wr) (by rw [hq]; exact HB.out.drewN q) (j := k) (by rw [HN.out]; exact hlt)
      obtain ⟨x, hx⟩ : ∃ x, xs[k]'(by rw [HN.out]; exact hlt) = x := ⟨_, rfl⟩
      rw [hx] at z0 z1
      have k1 : (k : Int) < (n : Int) := by omega
      clear hq hx
      go_wp2_with fail
      go_quiet (fail)
      go_wp2_with fail
      go_roundw
      case rel => exact ⟨k + 1, by go_num, by omega, q + nq, by rw [HQ.out, World.drewN_drewN]⟩
      case measure => simp only [intOf]; omega
    · obtain rfl : k = n := by omega
      clear hq
      go_wp2_with fail
      go_ret
      exact ⟨rfl, q, HQ.out⟩
end Go.Proofs.YtjiphalannmcnaaDoor.REC
