/- The walks of the laws of portion: Out of any total; awake. -/
import Derived.Test.YtkceeifhnohioaaPortionP
import Derived.Test.YtkceeifhnohioaaPortionZ
import Derived.Test.YtkceeifhnohioaaPortionN
import Derived.Test.YtkceeifhnohioaaSame
namespace Go.Proofs.Ytkceeifhnohioaa.PO
open Go.RowKit Go.Proofs.Ytkceeifhnohioaa.Cents Go.Proofs.Ytkceeifhnohioaa.CO
set_option linter.unusedVariables false
set_option linter.unusedSimpArgs false

theorem out_own (T : Int) (A : Option Addr) (ws : List Int) (c : Nat) (w : World) (hT : I64 T) (hx : ∀ x ∈ ws, I64 x) (hr : Row w 0 A (ints ws)) (hl : ws.length * 8 ≤ 140737488351232) :
    Calls Try.prog 19 #[.int .i64 T, .slice A ws.length c] w (RetO w (outV T ws) (outE T ws)) := by
  by_cases h0 : outE T ws = 0
  · obtain ⟨h1, h2⟩ := outE_ok h0
    unfold outV
    rw [h0, if_pos rfl]
    unfold I64 at hT
    by_cases hn : T < 0
    · have := out_neg (-T) ws.sum A ws c w (by omega) (by omega) hx hr h1 rfl
      rw [Int.neg_neg] at this
      rw [show max (0 - T) T = -T by omega]
      simpa only [hn, if_true] using this
    · by_cases hz : T = 0
      · have := out_zero T ws.sum A ws c w (by omega) (by omega) (by omega) hx hr h1 rfl
        rw [show max (0 - T) T = T by omega]
        simpa only [hn, if_false] using this
      · have := out_pos T ws.sum A ws c w (by omega) (by omega) (by omega) hx hr h1 rfl
        rw [show max (0 - T) T = T by omega]
        simpa only [hn, if_false] using this
  · have := out_bad T A ws c w hT hx hr hl _ rfl h0
    unfold outV
    rw [if_neg h0]
    exact this.mono fun _ _ h => h.nilO
theorem out_any (T : Int) (A : Option Addr) (ws : List Int) (c : Nat) (w : World) (hT : I64 T) (hx : ∀ x ∈ ws, I64 x) (hr : Row w 0 A (ints ws)) (hl : ws.length * 8 ≤ 140737488351232) :
    Calls Try.prog 19 #[.int .i64 T, .slice A ws.length c] w (RetL w (outV T ws) (outE T ws)) := (out_own T A ws c w hT hx hr hl).mono fun _ _ h => h.toL
theorem out_is (T : Int) (A : Option Addr) (ws : List Int) (c : Nat) (w : World) (hT : I64 T) (hx : ∀ x ∈ ws, I64 x) (hr : Row w 0 A (ints ws)) (hl : ws.length * 8 ≤ 140737488351232) (V : List Int) (E : Int) (h : outV T ws = V ∧ outE T ws = E) :
    Calls Try.prog 19 #[.int .i64 T, .slice A ws.length c] w (RetL w V E) := by
  rw [← h.1, ← h.2]; exact out_any T A ws c w hT hx hr hl
theorem litI (w : World) (cs : List Int) : Row (w.alloc (.cells (ints cs).toArray 2)) 0 (some ⟨w.heap.size, 0, none⟩) (ints cs) := Row.of_blk (Blk.new w 2 (ints cs).toArray) (Nat.zero_le _) rfl
theorem small {l : List Int} (h : l.all (fun x => decide (I64 x)) = true) : ∀ x ∈ l, I64 x := by
  rw [List.all_eq_true] at h
  intro x hx
  simpa using h x hx

end Go.Proofs.Ytkceeifhnohioaa.PO
