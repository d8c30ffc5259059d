/- The walks of the laws of portion: Out of any total; awake. -/
import Derived.Test.YtejkamgidhpcjaaPortionP
import Derived.Test.YtejkamgidhpcjaaPortionZ
import Derived.Test.YtejkamgidhpcjaaPortionN
import Derived.Test.YtejkamgidhpcjaaSame
namespace Go.Proofs.Ytejkamgidhpcjaa.PO
open Go.RowKit Go.Proofs.Ytejkamgidhpcjaa.Cents Go.Proofs.Ytejkamgidhpcjaa.CO
set_option linter.unusedVariables false
set_option linter.unusedSimpArgs false

theorem out_any (T : Int) (A : Option Addr) (ws : List Int) (c : Nat) (w : World) (hT : I64 T) (hx : ∀ x ∈ ws, I64 x) (hr : Row w 0 A (ints ws)) (hl : ws.length * 8 ≤ 140737488351232) :
    Calls Try.prog 17 #[.int .i64 T, .slice A ws.length c] w (RetL w (outV T ws) (outE T ws)) := by
  by_cases h0 : outE T ws = 0
  · obtain ⟨h1, h2⟩ := outE_ok h0
    unfold outV
    rw [h0, if_pos rfl]
    unfold I64 at hT
    by_cases hn : T < 0
    · have := out_neg (-T) ws.sum A ws c w (by omega) (by omega) hx hr h1 rfl
      rw [Int.neg_neg] at this
      rw [show max (0 - T) T = -T by omega]
      simpa only [hn, if_true] using this
    · by_cases hz : T = 0
      · have := out_zero T ws.sum A ws c w (by omega) (by omega) (by omega) hx hr h1 rfl
        rw [show max (0 - T) T = T by omega]
        simpa only [hn, if_false] using this
      · have := out_pos T ws.sum A ws c w (by omega) (by omega) (by omega) hx hr h1 rfl
        rw [show max (0 - T) T = T by omega]
        simpa only [hn, if_false] using this
  · have := out_bad T A ws c w hT hx hr hl _ rfl h0
    unfold outV
    rw [if_neg h0]
    exact this
theorem out_is (T : Int) (A : Option Addr) (ws : List Int) (c : Nat) (w : World) (hT : I64 T) (hx : ∀ x ∈ ws, I64 x) (hr : Row w 0 A (ints ws)) (hl : ws.length * 8 ≤ 140737488351232) (V : List Int) (E : Int) (h : outV T ws = V ∧ outE T ws = E) :
    Calls Try.prog 17 #[.int .i64 T, .slice A ws.length c] w (RetL w V E) := by
  rw [← h.1, ← h.2]; exact out_any T A ws c w hT hx hr hl
theorem steps_is (T W : Int) (A : Option Addr) (ms : List Int) (c : Nat) (w : World) (hT : I64 T) (hW : I64 W) (hx : ∀ x ∈ ms, I64 x) (hr : Row w 0 A (ints ms)) (hl : ms.length * 8 ≤ 140737488351232) (V : List Int) (E : Int) (h : stV T W ms = V ∧ stE W ms = E) :
    Calls Try.prog 19 #[.int .i64 T, .slice A ms.length c, .int .i64 W] w (RetL w V E) := by
  rw [← h.1, ← h.2]; exact steps_any T W A ms c w hT hW hx hr hl
theorem litI (w : World) (cs : List Int) : Row (w.alloc (.cells (ints cs).toArray 2)) 0 (some ⟨w.heap.size, 0, none⟩) (ints cs) := Row.of_blk (Blk.new w 2 (ints cs).toArray) (Nat.zero_le _) rfl
theorem small {l : List Int} (h : l.all (fun x => decide (I64 x)) = true) : ∀ x ∈ l, I64 x := by
  rw [List.all_eq_true] at h
  intro x hx
  simpa using h x hx

set_option maxHeartbeats 1000000 in
set_option maxRecDepth 100000 in
theorem awake02 (w : World) : Calls Try.prog 16 #[] w fun e w' => e = .returned (.bool true) ∧ Below w.heap.size w w' := by
  go_enter Try.func16, Try.ntmps16
  go_wp2_with fail
  have BE := Lib.hid (Below.refl w.heap.size w)
  refine (out_is 10 (some ⟨w.heap.size, 0, none⟩) [1, 5, 1] 3 _ ⟨by decide, by decide⟩ (small (by decide)) (litI w [1, 5, 1]) (by decide) [2, 7, 1] 0 (by decide +kernel)).mono ?_
  rintro e w1 ⟨A1, c1, rfl, hr, hc, hb⟩
  have BE := Lib.hid ((BE.out.alloc BE.out.size (.cells (ints [1, 5, 1]).toArray 2)).trans (hb.mono (by have := BE.out.size; simp <;> omega)))
  have RA1 := Lib.hid (hr.weak (Nat.zero_le _))
  clear hr hc hb
  go_wp2_with fail
  refine (out_is (-10) (some ⟨w1.heap.size, 0, none⟩) [1, 5, 1] 3 _ ⟨by decide, by decide⟩ (small (by decide)) (litI w1 [1, 5, 1]) (by decide) [-2, -7, -1] 0 (by decide +kernel)).mono ?_
  rintro e w2 ⟨A2, c2, rfl, hr, hc, hb⟩
  have RA1 := Lib.hid ((RA1.out.below (alloc1 _ (.cells (ints [1, 5, 1]).toArray 2))).below hb)
  have BE := Lib.hid ((BE.out.alloc BE.out.size (.cells (ints [1, 5, 1]).toArray 2)).trans (hb.mono (by have := BE.out.size; simp <;> omega)))
  have RA2 := Lib.hid (hr.weak (Nat.zero_le _))
  clear hr hc hb
  go_wp2_with fail
  refine (steps_is 10 3 (some ⟨w2.heap.size, 0, none⟩) [1, 2, 3] 3 _ ⟨by decide, by decide⟩ ⟨by decide, by decide⟩ (small (by decide)) (litI w2 [1, 2, 3]) (by decide) [3, 3, 4] 0 (by decide +kernel)).mono ?_
  rintro e w3 ⟨A3, c3, rfl, hr, hc, hb⟩
  have RA1 := Lib.hid ((RA1.out.below (alloc1 _ (.cells (ints [1, 2, 3]).toArray 2))).below hb)
  have RA2 := Lib.hid ((RA2.out.below (alloc1 _ (.cells (ints [1, 2, 3]).toArray 2))).below hb)
  have BE := Lib.hid ((BE.out.alloc BE.out.size (.cells (ints [1, 2, 3]).toArray 2)).trans (hb.mono (by have := BE.out.size; simp <;> omega)))
  have RA3 := Lib.hid (hr.weak (Nat.zero_le _))
  clear hr hc hb
  go_wp2_with fail
  refine (out_is 10 (some ⟨w3.heap.size, 0, none⟩) [0] 1 _ ⟨by decide, by decide⟩ (small (by decide)) (litI w3 [0]) (by decide) [] 1 (by decide +kernel)).mono ?_
  rintro e w4 ⟨A4, c4, rfl, hr, hc, hb⟩
  have RA1 := Lib.hid ((RA1.out.below (alloc1 _ (.cells (ints [0]).toArray 2))).below hb)
  have RA2 := Lib.hid ((RA2.out.below (alloc1 _ (.cells (ints [0]).toArray 2))).below hb)
  have RA3 := Lib.hid ((RA3.out.below (alloc1 _ (.cells (ints [0]).toArray 2))).below hb)
  have BE := Lib.hid ((BE.out.alloc BE.out.size (.cells (ints [0]).toArray 2)).trans (hb.mono (by have := BE.out.size; simp <;> omega)))
  clear hr hc hb
  go_wp2_with fail
  refine (steps_is 10 3 (some ⟨w4.heap.size, 0, none⟩) [2, 1] 2 _ ⟨by decide, by decide⟩ ⟨by decide, by decide⟩ (small (by decide)) (litI w4 [2, 1]) (by decide) [] 1 (by decide +kernel)).mono ?_
  rintro e w5 ⟨A5, c5, rfl, hr, hc, hb⟩
  have RA1 := Lib.hid ((RA1.out.below (alloc1 _ (.cells (ints [2, 1]).toArray 2))).below hb)
  have RA2 := Lib.hid ((RA2.out.below (alloc1 _ (.cells (ints [2, 1]).toArray 2))).below hb)
  have RA3 := Lib.hid ((RA3.out.below (alloc1 _ (.cells (ints [2, 1]).toArray 2))).below hb)
  have BE := Lib.hid ((BE.out.alloc BE.out.size (.cells (ints [2, 1]).toArray 2)).trans (hb.mono (by have := BE.out.size; simp <;> omega)))
  clear hr hc hb
  go_wp2_with fail
  refine (same_any A1 (some ⟨w5.heap.size, 0, none⟩) [2, 7, 1] [2, 7, 1] c1 3 _ (RA1.out.below (alloc1 _ (.cells (ints [2, 7, 1]).toArray 2))) (litI w5 [2, 7, 1]) (by decide) (by decide) true (by decide)).mono ?_
  rintro e w6 ⟨rfl, hb⟩
  have RA2 := Lib.hid ((RA2.out.below (alloc1 _ (.cells (ints [2, 7, 1]).toArray 2))).below hb)
  have RA3 := Lib.hid ((RA3.out.below (alloc1 _ (.cells (ints [2, 7, 1]).toArray 2))).below hb)
  have BE := Lib.hid ((BE.out.alloc BE.out.size (.cells (ints [2, 7, 1]).toArray 2)).trans (hb.mono (by have := BE.out.size; simp <;> omega)))
  clear hb
  go_wp2_with fail
  refine (same_any A2 (some ⟨w6.heap.size, 0, none⟩) [-2, -7, -1] [-2, -7, -1] c2 3 _ (RA2.out.below (alloc1 _ (.cells (ints [-2, -7, -1]).toArray 2))) (litI w6 [-2, -7, -1]) (by decide) (by decide) true (by decide)).mono ?_
  rintro e w7 ⟨rfl, hb⟩
  have RA3 := Lib.hid ((RA3.out.below (alloc1 _ (.cells (ints [-2, -7, -1]).toArray 2))).below hb)
  have BE := Lib.hid ((BE.out.alloc BE.out.size (.cells (ints [-2, -7, -1]).toArray 2)).trans (hb.mono (by have := BE.out.size; simp <;> omega)))
  clear hb
  go_wp2_with fail
  refine (same_any A3 (some ⟨w7.heap.size, 0, none⟩) [3, 3, 4] [3, 3, 4] c3 3 _ (RA3.out.below (alloc1 _ (.cells (ints [3, 3, 4]).toArray 2))) (litI w7 [3, 3, 4]) (by decide) (by decide) true (by decide)).mono ?_
  rintro e w8 ⟨rfl, hb⟩
  have BE := Lib.hid ((BE.out.alloc BE.out.size (.cells (ints [3, 3, 4]).toArray 2)).trans (hb.mono (by have := BE.out.size; simp <;> omega)))
  clear hb
  go_wp2_with fail
  go_ret
  exact ⟨rfl, BE.out⟩
end Go.Proofs.Ytejkamgidhpcjaa.PO
