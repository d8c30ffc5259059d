/- The walks of the laws of consider that name no reference: awake, ConsiderBound, ConsiderSure, ConsiderMean. -/
import Derived.Test.YtejkamgidhpcjaaConsiderC
namespace Go.Proofs.Ytejkamgidhpcjaa.CO
open Go.RowKit Go.Proofs.Ytejkamgidhpcjaa.Cents
set_option linter.unusedVariables false
set_option linter.unusedSimpArgs false

def m1 : Mb := ⟨50, 6000⟩
def m2 : Mb := ⟨-20, 3000⟩
def m3 : Mb := ⟨-1, 1⟩
set_option maxHeartbeats 1000000 in
set_option maxRecDepth 100000 in
theorem awake12 (w : World) : Calls Try.prog 11 #[] w fun e w' => e = .returned (.bool true) ∧ Below w.heap.size w w' := by
  have hi12 : ∀ m ∈ [m1, m2], Mb.I m := by intro m hm; simp at hm; rcases hm with rfl | rfl <;> exact ⟨⟨by decide, by decide⟩, ⟨by decide, by decide⟩⟩
  have hi3 : ∀ m ∈ [m3], Mb.I m := by intro m hm; simp at hm; rcases hm with rfl; exact ⟨⟨by decide, by decide⟩, ⟨by decide, by decide⟩⟩
  have H12 := Lib.hid hi12
  have H3 := Lib.hid hi3
  clear hi12 hi3
  go_enter Try.func11, Try.ntmps11
  go_wp2_with fail
  have hbk := Blk.new w 26 #[.int .i64 50, .int .i64 6000, .int .i64 (-20), .int .i64 3000]
  have hbe := alloc1 w (.cells #[.int .i64 50, .int .i64 6000, .int .i64 (-20), .int .i64 3000] 26)
  generalize (w.alloc (.cells #[.int .i64 50, .int .i64 6000, .int .i64 (-20), .int .i64 3000] 26)) = W at hbk hbe ⊢
  have HRW := Lib.hid (show Row W 0 (some ⟨w.heap.size, 0, none⟩) (mcells [m1, m2]) from Row.of_blk hbk (Nat.zero_le _) rfl)
  have HBE := Lib.hid hbe
  clear hbk hbe
  refine (likely_any 100 5000 (some ⟨w.heap.size, 0, none⟩) [m1, m2] 2 _ HRW.out H12.out ⟨by decide, by decide⟩ (by decide) 150 0 (by decide +kernel)).mono ?_
  rintro e w1 ⟨rfl, hb⟩
  have HRW := Lib.hid (HRW.out.below hb)
  have HBE := Lib.hid (HBE.out.trans (hb.mono HBE.out.size))
  clear hb
  go_wp2_with fail
  refine (mean_any 100 (some ⟨w.heap.size, 0, none⟩) [m1, m2] 2 _ HRW.out H12.out ⟨by decide, by decide⟩ (by decide) 124 0 (by decide +kernel)).mono ?_
  rintro e w2 ⟨rfl, hb⟩
  have HRW := Lib.hid (HRW.out.below hb)
  have HBE := Lib.hid (HBE.out.trans (hb.mono HBE.out.size))
  clear hb
  go_wp2_with fail
  refine (likely_any 100 8000 (some ⟨w.heap.size, 0, none⟩) [m1, m2] 2 _ HRW.out H12.out ⟨by decide, by decide⟩ (by decide) 80 0 (by decide +kernel)).mono ?_
  rintro e w3 ⟨rfl, hb⟩
  have HBE := Lib.hid (HBE.out.trans (hb.mono HBE.out.size))
  clear hb HRW
  go_wp2_with fail
  refine (likely_any (-1) 0 none [] 0 _ Row.none_ (by simp) ⟨by decide, by decide⟩ (by decide) 0 1 (by decide +kernel)).mono ?_
  rintro e w4 ⟨rfl, hb⟩
  have HBE := Lib.hid (HBE.out.trans (hb.mono HBE.out.size))
  clear hb
  go_wp2_with fail
  have hbk := Blk.new w4 26 #[.int .i64 (-1), .int .i64 1]
  have hbe := alloc1 w4 (.cells #[.int .i64 (-1), .int .i64 1] 26)
  generalize (w4.alloc (.cells #[.int .i64 (-1), .int .i64 1] 26)) = W5 at hbk hbe ⊢
  have HRW := Lib.hid (show Row W5 0 (some ⟨w4.heap.size, 0, none⟩) (mcells [m3]) from Row.of_blk hbk (Nat.zero_le _) rfl)
  have HBE := Lib.hid (HBE.out.trans (hbe.mono HBE.out.size))
  clear hbk hbe
  refine (mean_any 0 (some ⟨w4.heap.size, 0, none⟩) [m3] 1 _ HRW.out H3.out ⟨by decide, by decide⟩ (by decide) 0 1 (by decide +kernel)).mono ?_
  rintro e w6 ⟨rfl, hb⟩
  have HBE := Lib.hid (HBE.out.trans (hb.mono HBE.out.size))
  clear hb
  go_wp2_with fail
  go_ret
  exact ⟨rfl, HBE.out⟩

/-! ### ConsiderBound -/
theorem price_zero {s : Int} (h : priceE s ≠ 0) : priceN s = 0 := by
  unfold priceE at h
  unfold priceN
  split
  · rename_i hs
    rw [if_pos hs] at h
    split
    · rfl
    · rename_i hn
      rw [if_neg hn] at h
      exact absurd rfl h
  · rfl
theorem price_ok {s : Int} (h : priceE s = 0) : priceN s = s ∧ I64 s ∧ 0 ≤ s := by
  unfold priceE at h
  unfold priceN
  by_cases hs : I64 s
  · rw [if_pos hs] at h ⊢
    by_cases hn : s < 0
    · rw [if_pos hn] at h; omega
    · rw [if_neg hn]; exact ⟨rfl, hs, by omega⟩
  · rw [if_neg hs] at h; omega
theorem likely_zero {f : Int} {l : List Mb} {b : Int} (h : likelyE f l b ≠ 0) : likelyN f l b = 0 := by
  unfold likelyE at h
  unfold likelyN
  by_cases hc : checkE f l b = 0
  · rw [if_pos hc] at h ⊢; exact price_zero h
  · rw [if_neg hc]
theorem likely_is {f : Int} {l : List Mb} {b : Int} (h : likelyE f l b = 0) : checkE f l b = 0 ∧ likelyN f l b = likelyS f l b ∧ I64 (likelyS f l b) ∧ 0 ≤ likelyS f l b := by
  unfold likelyE at h
  unfold likelyN
  by_cases hc : checkE f l b = 0
  · rw [if_pos hc] at h ⊢
    obtain ⟨h1, h2, h3⟩ := price_ok h
    exact ⟨hc, h1, h2, h3⟩
  · rw [if_neg hc] at h; exact absurd h hc
theorem sures_cons (m : Mb) (l : List Mb) (b : Int) : (sures (m :: l) b).sum = (if m.sure b = true then m.a else 0) + (sures l b).sum := by
  unfold sures
  by_cases h : m.sure b = true
  · simp [h]
  · simp [h]
theorem sures_mono {lo hi : Int} (h : lo ≤ hi) (l : List Mb) : (sures l hi).sum ≤ (sures l lo).sum := by
  induction l with
  | nil => simp [sures]
  | cons m l ih =>
    rw [sures_cons, sures_cons]
    have : (if m.sure hi = true then m.a else 0) ≤ (if m.sure lo = true then m.a else 0) := by
      unfold Mb.sure
      by_cases ha : m.a < 0
      · rw [if_pos ha, if_pos ha]
        by_cases h1 : 10000 - lo < m.ch
        · simp only [decide_eq_true_eq]
          rw [if_pos (by omega), if_pos h1]; exact Int.le_refl _
        · simp only [decide_eq_true_eq]
          rw [if_neg h1]; split <;> omega
      · rw [if_neg ha, if_neg ha]
        simp only [decide_eq_true_eq]
        by_cases h1 : hi ≤ m.ch
        · rw [if_pos h1, if_pos (by omega)]; exact Int.le_refl _
        · rw [if_neg h1]; split <;> omega
    omega
set_option maxHeartbeats 1000000 in
set_option maxRecDepth 100000 in
theorem bound_in (f lo hi : Int) (A : Option Addr) (xs : List Mb) (c : Nat) (w : World) (hr : Row w 0 A (mcells xs)) (hx : ∀ m ∈ xs, Mb.I m) (hf : I64 f) (hl : xs.length ≤ 40) (hlh : lo ≤ hi) (x1 y1 x2 y2 : Int) (h1 : likelyN f xs lo = x1 ∧ likelyE f xs lo = y1) (h2 : likelyN f xs hi = x2 ∧ likelyE f xs hi = y2) :
    Calls Try.prog 4 #[.int .i64 f, .slice A xs.length c, .int .i64 lo, .int .i64 hi] w fun e w' => e = .returned (.bool true) ∧ Below w.heap.size w w' := by
  have hcs : ((y1 != 0) = true ∧ x1 = 0) ∨ (y1 = 0 ∧ (y2 != 0) = true ∧ x2 = 0) ∨ (y1 = 0 ∧ y2 = 0 ∧ x2 ≤ x1) := by
    by_cases e1 : y1 = 0
    · by_cases e2 : y2 = 0
      · refine .inr (.inr ⟨e1, e2, ?_⟩)
        obtain ⟨_, i1, _, _⟩ := likely_is (h1.2.trans e1)
        obtain ⟨_, i2, _, _⟩ := likely_is (h2.2.trans e2)
        rw [← h1.1, ← h2.1, i1, i2]
        have := sures_mono hlh xs
        unfold likelyS; omega
      · refine .inr (.inl ⟨e1, by simpa using e2, ?_⟩)
        rw [← h2.1]; exact likely_zero (by rw [h2.2]; exact e2)
    · refine .inl ⟨by simpa using e1, ?_⟩
      rw [← h1.1]; exact likely_zero (by rw [h1.2]; exact e1)
  have HR := Lib.hid hr
  have HX := Lib.hid hx
  have HF := Lib.hid hf
  have H1 := Lib.hid h1
  have H2 := Lib.hid h2
  have HL1 := Lib.hid (fun (w' : World) (hr' : Row w' 0 A (mcells xs)) => likely_any f lo A xs c w' hr' HX.out HF.out (by omega) x1 y1 H1.out)
  have HL2 := Lib.hid (fun (w' : World) (hr' : Row w' 0 A (mcells xs)) => likely_any f hi A xs c w' hr' HX.out HF.out (by omega) x2 y2 H2.out)
  generalize xs.length = n at *
  have hn2 : decide ((40 : Int) < (n : Int)) = false := by simp; omega
  clear hr hx hf h1 h2 H1 H2
  rcases hcs with ⟨k1, rfl⟩ | ⟨rfl, k1, rfl⟩ | ⟨rfl, rfl, k1⟩
  all_goals
    go_enter Try.func4, Try.ntmps4
    go_wp2_with fail
    refine (awake12 _).mono ?_
    rintro e w1 ⟨rfl, hb⟩
    have HB := Lib.hid hb
    clear hb
    go_wp2_with fail
    refine (HL1.out _ (HR.out.below HB.out)).mono ?_
    rintro e w2 ⟨rfl, hb⟩
    have HB := Lib.hid (HB.out.trans (hb.mono HB.out.size))
    clear hb
    go_wp2_with fail
    refine (HL2.out _ (HR.out.below HB.out)).mono ?_
    rintro e w3 ⟨rfl, hb⟩
    have HB := Lib.hid (HB.out.trans (hb.mono HB.out.size))
    clear hb
    go_wp2_with fail
    go_ret
    exact ⟨rfl, HB.out⟩
set_option maxHeartbeats 1000000 in
set_option maxRecDepth 100000 in
theorem bound_out (f lo hi : Int) (A : Option Addr) (n c : Nat) (w : World) (hl : 40 < n ∨ hi < lo) (hn : n ≤ 140737488351232) :
    Calls Try.prog 4 #[.int .i64 f, .slice A n c, .int .i64 lo, .int .i64 hi] w fun e w' => e = .returned (.bool true) ∧ Below w.heap.size w w' := by
  by_cases h : 40 < n
  · have hn2 : decide ((40 : Int) < (n : Int)) = true := by simp; omega
    clear hl h
    go_enter Try.func4, Try.ntmps4
    go_wp2_with fail
    refine (awake12 _).mono ?_
    rintro e w1 ⟨rfl, hb⟩
    have HB := Lib.hid hb
    clear hb
    go_wp2_with fail
    go_ret
    exact ⟨rfl, HB.out⟩
  · have hn2 : decide ((40 : Int) < (n : Int)) = false := by simp; omega
    have h2 : hi < lo := by omega
    clear hl h
    go_enter Try.func4, Try.ntmps4
    go_wp2_with fail
    refine (awake12 _).mono ?_
    rintro e w1 ⟨rfl, hb⟩
    have HB := Lib.hid hb
    clear hb
    go_wp2_with fail
    go_ret
    exact ⟨rfl, HB.out⟩
theorem bound_walk (f : Int) (A : Option Addr) (xs : List Mb) (c : Nat) (lo hi : Int) (w : World) (hf : I64 f) (hx : ∀ m ∈ xs, Mb.I m) (hr : Row w 0 A (mcells xs)) (hl : xs.length * 16 ≤ 140737488351232) (_ : I64 lo) (_ : I64 hi) :
    Calls Try.prog 4 #[.int .i64 f, .slice A xs.length c, .int .i64 lo, .int .i64 hi] w fun e w' => e = .returned (.bool true) ∧ Below w.heap.size w w' := by
  by_cases h : 40 < xs.length ∨ hi < lo
  · exact bound_out f lo hi A xs.length c w h (by omega)
  · exact bound_in f lo hi A xs c w hr hx hf (by omega) (by omega) _ _ _ _ ⟨rfl, rfl⟩ ⟨rfl, rfl⟩
end Go.Proofs.Ytejkamgidhpcjaa.CO
