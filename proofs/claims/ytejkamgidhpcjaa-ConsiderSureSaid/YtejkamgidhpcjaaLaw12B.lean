/- The walks of the laws ConsiderSure and ConsiderMean. -/
import Derived.Test.YtejkamgidhpcjaaLaw12
namespace Go.Proofs.Ytejkamgidhpcjaa.CO
open Go.RowKit Go.Proofs.Ytejkamgidhpcjaa.Cents
set_option linter.unusedVariables false
set_option linter.unusedSimpArgs false

/-! ### ConsiderSure -/
theorem sure_all {f a b : Int} (hf : I64 f) (hf0 : 0 ≤ f) (hb1 : 1 ≤ b) (hb2 : b ≤ 10000) : likelyN f [⟨a, 10000⟩] b = priceN (f + a) ∧ likelyE f [⟨a, 10000⟩] b = priceE (f + a) ∧ meanN f [⟨a, 10000⟩] = priceN (f + a) ∧ meanE f [⟨a, 10000⟩] = priceE (f + a) := by
  have hc : ∀ b, 0 ≤ b → b ≤ 10000 → checkE f [⟨a, 10000⟩] b = 0 := by
    intro b h0 h1
    unfold checkE
    rw [if_neg (by simp), if_neg (by simp [anyW, Mb.bad]; omega)]
  have hs : likelyS f [⟨a, 10000⟩] b = f + a := by
    have : Mb.sure ⟨a, 10000⟩ b = true := by
      unfold Mb.sure
      by_cases h : a < 0
      · rw [if_pos h]; simp; omega
      · rw [if_neg h]; simp; omega
    simp [likelyS, sures, this]
  have hm : meanS f [⟨a, 10000⟩] = f + a := by
    simp [meanS, prods]
  unfold likelyN likelyE meanN meanE
  rw [hc b (by omega) hb2, hc 0 (by omega) (by omega), hs, hm]
  exact ⟨rfl, rfl, rfl, rfl⟩
theorem sure_none {f a b : Int} (hf : I64 f) (hf0 : 0 ≤ f) (hb1 : 1 ≤ b) (hb2 : b ≤ 10000) : likelyN f [⟨a, 0⟩] b = f ∧ likelyE f [⟨a, 0⟩] b = 0 ∧ meanN f [⟨a, 0⟩] = f ∧ meanE f [⟨a, 0⟩] = 0 := by
  have hc : ∀ b, 0 ≤ b → b ≤ 10000 → checkE f [⟨a, 0⟩] b = 0 := by
    intro b h0 h1
    unfold checkE
    rw [if_neg (by simp), if_neg (by simp [anyW, Mb.bad]; omega)]
  have hs : likelyS f [⟨a, 0⟩] b = f := by
    have : Mb.sure ⟨a, 0⟩ b = false := by
      unfold Mb.sure
      by_cases h : a < 0
      · rw [if_pos h]; simp; omega
      · rw [if_neg h]; simp; omega
    simp [likelyS, sures, this]
  have hm : meanS f [⟨a, 0⟩] = f := by
    simp [meanS, prods]
  unfold likelyN likelyE meanN meanE
  rw [hc b (by omega) hb2, hc 0 (by omega) (by omega), hs, hm]
  have h1 : priceN f = f ∧ priceE f = 0 := by
    unfold priceN priceE
    rw [if_pos hf, if_pos hf, if_neg (by omega), if_neg (by omega)]
    exact ⟨rfl, rfl⟩
  rw [h1.1, h1.2]
  exact ⟨rfl, rfl, rfl, rfl⟩
theorem one_I {a c : Int} (ha : I64 a) (hc : I64 c) : ∀ m ∈ [(⟨a, c⟩ : Mb)], Mb.I m := by
  intro m hm
  simp at hm
  subst hm
  exact ⟨ha, hc⟩

set_option maxHeartbeats 1000000 in
set_option maxRecDepth 100000 in
theorem sure_in (f a b : Int) (w : World) (hf : I64 f) (ha : I64 a) (hf0 : 0 ≤ f) (hb1 : 1 ≤ b) (hb2 : b ≤ 10000) (x y : Int) (hp : priceN (f + a) = x ∧ priceE (f + a) = y) :
    Calls Try.prog 5 #[.int .i64 f, .int .i64 a, .int .i64 b] w fun e w' => e = .returned (.bool true) ∧ Below w.heap.size w w' := by
  obtain ⟨p1, p2, p3, p4⟩ := sure_all (a := a) hf hf0 hb1 hb2
  obtain ⟨q1, q2, q3, q4⟩ := sure_none (a := a) hf hf0 hb1 hb2
  rw [hp.1] at p1 p3
  rw [hp.2] at p2 p4
  have hcs : ((y != 0) = true) ∨ (y = 0 ∧ x = f + a ∧ 0 ≤ f + a ∧ f + a < 9223372036854775808) := by
    by_cases e : y = 0
    · obtain ⟨i1, i2, i3⟩ := price_ok (hp.2.trans e)
      exact .inr ⟨e, by rw [← hp.1]; exact i1, i3, i2.2⟩
    · exact .inl (by simpa using e)
  have P1 := Lib.hid (And.intro p1 p2)
  have P2 := Lib.hid (And.intro p3 p4)
  have Q1 := Lib.hid (And.intro q1 q2)
  have Q2 := Lib.hid (And.intro q3 q4)
  have HF := Lib.hid hf
  have HA := Lib.hid ha
  have IA := Lib.hid (one_I (c := 10000) ha ⟨by decide, by decide⟩)
  have IN := Lib.hid (one_I (c := 0) ha ⟨by decide, by decide⟩)
  have hfa := hf.2
  have haa := ha
  obtain ⟨ha1, ha2⟩ := haa
  clear p1 p2 p3 p4 q1 q2 q3 q4 hf ha hp
  rcases hcs with k1 | ⟨rfl, rfl, k1, k2⟩
  all_goals
    go_enter Try.func5, Try.ntmps5
    go_wp2_with fail
    refine (awake12 _).mono ?_
    rintro e w1 ⟨rfl, hb⟩
    have HB := Lib.hid hb
    clear hb
    go_wp2_with fail
    have hk1 := Blk.new w1 26 #[.int .i64 a, .int .i64 10000]
    have hk2 := Blk.new (w1.alloc (.cells #[.int .i64 a, .int .i64 10000] 26)) 26 #[.int .i64 a, .int .i64 0]
    have hs1 : (w1.alloc (.cells #[.int .i64 a, .int .i64 10000] 26)).heap.size = w1.heap.size + 1 := by simp
    rw [hs1] at hk2
    have hk1 := hk1.alloc (.cells #[.int .i64 a, .int .i64 0] 26)
    have hbe := (alloc1 w1 (.cells #[.int .i64 a, .int .i64 10000] 26)).trans ((alloc1 (w1.alloc (.cells #[.int .i64 a, .int .i64 10000] 26)) (.cells #[.int .i64 a, .int .i64 0] 26)).mono (by simp))
    generalize ((w1.alloc (.cells #[.int .i64 a, .int .i64 10000] 26)).alloc (.cells #[.int .i64 a, .int .i64 0] 26)) = W at hk1 hk2 hbe ⊢
    have R1 := Lib.hid (show Row W 0 (some ⟨w1.heap.size, 0, none⟩) (mcells [⟨a, 10000⟩]) from Row.of_blk hk1 (Nat.zero_le _) rfl)
    have R2 := Lib.hid (show Row W 0 (some ⟨w1.heap.size + 1, 0, none⟩) (mcells [⟨a, 0⟩]) from Row.of_blk hk2 (Nat.zero_le _) rfl)
    have HB := Lib.hid (HB.out.trans (hbe.mono HB.out.size))
    clear hk1 hk2 hs1 hbe
    refine (likely_any f b (some ⟨w1.heap.size, 0, none⟩) [⟨a, 10000⟩] 1 _ R1.out IA.out HF.out (by simp) _ _ P1.out).mono ?_
    rintro e w2 ⟨rfl, hb⟩
    have HB := Lib.hid (HB.out.trans (hb.mono HB.out.size))
    have R1 := Lib.hid (R1.out.below hb)
    have R2 := Lib.hid (R2.out.below hb)
    clear hb
    go_wp2_with fail
    refine (mean_any f (some ⟨w1.heap.size, 0, none⟩) [⟨a, 10000⟩] 1 _ R1.out IA.out HF.out (by simp) _ _ P2.out).mono ?_
    rintro e w3 ⟨rfl, hb⟩
    have HB := Lib.hid (HB.out.trans (hb.mono HB.out.size))
    have R2 := Lib.hid (R2.out.below hb)
    clear hb
    go_wp2_with fail
    refine (likely_any f b (some ⟨w1.heap.size + 1, 0, none⟩) [⟨a, 0⟩] 1 _ R2.out IN.out HF.out (by simp) _ _ Q1.out).mono ?_
    rintro e w4 ⟨rfl, hb⟩
    have HB := Lib.hid (HB.out.trans (hb.mono HB.out.size))
    have R2 := Lib.hid (R2.out.below hb)
    clear hb
    go_wp2_with fail
    refine (mean_any f (some ⟨w1.heap.size + 1, 0, none⟩) [⟨a, 0⟩] 1 _ R2.out IN.out HF.out (by simp) _ _ Q2.out).mono ?_
    rintro e w5 ⟨rfl, hb⟩
    have HB := Lib.hid (HB.out.trans (hb.mono HB.out.size))
    clear hb
    go_wp2_with fail
    go_ret
    exact ⟨rfl, HB.out⟩
set_option maxHeartbeats 1000000 in
set_option maxRecDepth 100000 in
theorem sure_out (f a b : Int) (w : World) (h : b < 1 ∨ 10000 < b ∨ f < 0) :
    Calls Try.prog 5 #[.int .i64 f, .int .i64 a, .int .i64 b] w fun e w' => e = .returned (.bool true) ∧ Below w.heap.size w w' := by
  have hcs : b < 1 ∨ (1 ≤ b ∧ 10000 < b) ∨ (1 ≤ b ∧ b ≤ 10000 ∧ f < 0) := by omega
  clear h
  rcases hcs with h | ⟨h1, h2⟩ | ⟨h1, h2, h3⟩
  all_goals
    go_enter Try.func5, Try.ntmps5
    go_wp2_with fail
    refine (awake12 _).mono ?_
    rintro e w1 ⟨rfl, hb⟩
    have HB := Lib.hid hb
    clear hb
    go_wp2_with fail
    go_ret
    exact ⟨rfl, HB.out⟩
theorem sure_walk (f a b : Int) (w : World) (hf : I64 f) (ha : I64 a) (_ : I64 b) :
    Calls Try.prog 5 #[.int .i64 f, .int .i64 a, .int .i64 b] w fun e w' => e = .returned (.bool true) ∧ Below w.heap.size w w' := by
  by_cases h : b < 1 ∨ 10000 < b ∨ f < 0
  · exact sure_out f a b w h
  · exact sure_in f a b w hf ha (by omega) (by omega) (by omega) _ _ ⟨rfl, rfl⟩

/-! ### ConsiderMean -/
def loS (f : Int) (l : List Mb) : Int := f + (l.map fun m => min m.a 0).sum
def hiS (f : Int) (l : List Mb) : Int := f + (l.map fun m => max m.a 0).sum
def InR (m : Mb) : Prop := -1099511627776 ≤ m.a ∧ m.a ≤ 1099511627776
theorem loS_snoc (f : Int) (l : List Mb) (m : Mb) : loS f (l ++ [m]) = loS f l + min m.a 0 := by simp [loS]; omega
theorem hiS_snoc (f : Int) (l : List Mb) (m : Mb) : hiS f (l ++ [m]) = hiS f l + max m.a 0 := by simp [hiS]; omega
theorem lo_range (f : Int) (l : List Mb) (h : ∀ m ∈ l, InR m) : f - 1099511627776 * l.length ≤ loS f l ∧ loS f l ≤ f ∧ f ≤ hiS f l ∧ hiS f l ≤ f + 1099511627776 * l.length := by
  induction l with
  | nil => simp [loS, hiS]
  | cons m l ih =>
    obtain ⟨h1, h2, h3, h4⟩ := ih (fun x hx => h x (by simp [hx]))
    have hm := h m (by simp)
    unfold InR at hm
    unfold loS hiS at *
    simp only [List.map_cons, List.sum_cons, List.length_cons]
    omega
theorem mul_range {a c : Int} (h0 : 0 ≤ c) (h1 : c ≤ 10000) : 10000 * min a 0 ≤ a * c ∧ a * c ≤ 10000 * max a 0 := by
  rcases Int.lt_or_le a 0 with h | h
  · have e1 : min a 0 = a := by omega
    have e2 : max a 0 = 0 := by omega
    rw [e1, e2]
    have h2 : (-a) * c ≤ (-a) * 10000 := Int.mul_le_mul_of_nonneg_left h1 (by omega)
    have h3 : 0 ≤ (-a) * c := Int.mul_nonneg (by omega) h0
    rw [Int.neg_mul] at h2 h3
    omega
  · have e1 : min a 0 = 0 := by omega
    have e2 : max a 0 = a := by omega
    rw [e1, e2]
    have h2 : a * c ≤ a * 10000 := Int.mul_le_mul_of_nonneg_left h1 h
    have h3 : 0 ≤ a * c := Int.mul_nonneg h h0
    omega
theorem prods_range (l : List Mb) (h : ∀ m ∈ l, 0 ≤ m.ch ∧ m.ch ≤ 10000) : 10000 * (l.map fun m => min m.a 0).sum ≤ prods l ∧ prods l ≤ 10000 * (l.map fun m => max m.a 0).sum := by
  induction l with
  | nil => simp [prods]
  | cons m l ih =>
    obtain ⟨h1, h2⟩ := ih (fun x hx => h x (by simp [hx]))
    have hm := h m (by simp)
    have := mul_range (a := m.a) hm.1 hm.2
    rw [prods_cons]
    simp only [List.map_cons, List.sum_cons]
    omega
theorem mean_within {f : Int} {l : List Mb} (h : meanE f l = 0) : loS f l ≤ meanN f l ∧ meanN f l ≤ hiS f l := by
  unfold meanE at h
  unfold meanN
  by_cases hc : checkE f l 0 = 0
  · rw [if_pos hc] at h ⊢
    obtain ⟨i1, i2, i3⟩ := price_ok h
    rw [i1]
    obtain ⟨_, _, _, _, hch⟩ := check_ok hc
    have := prods_range l hch
    unfold meanS loS hiS
    omega
  · rw [if_neg hc] at h; exact absurd h hc
theorem mean_zero {f : Int} {l : List Mb} (h : meanE f l ≠ 0) : meanN f l = 0 := by
  unfold meanE at h
  unfold meanN
  by_cases hc : checkE f l 0 = 0
  · rw [if_pos hc] at h ⊢; exact price_zero h
  · rw [if_neg hc]

set_option maxHeartbeats 1000000 in
set_option maxRecDepth 100000 in
theorem mean_in (f : Int) (A : Option Addr) (xs : List Mb) (c : Nat) (w : World) (hr : Row w 0 A (mcells xs)) (hx : ∀ m ∈ xs, Mb.I m) (hl : xs.length ≤ 32) (hf0 : 0 ≤ f) (hf1 : f ≤ 1152921504606846976) (x y : Int) (hp : meanN f xs = x ∧ meanE f xs = y) :
    Calls Try.prog 6 #[.int .i64 f, .slice A xs.length c] w fun e w' => e = .returned (.bool true) ∧ Below w.heap.size w w' := by
  have hcs : ((y != 0) = true ∧ x = 0) ∨ (y = 0 ∧ loS f xs ≤ x ∧ x ≤ hiS f xs) := by
    by_cases e : y = 0
    · have := mean_within (hp.2.trans e)
      rw [hp.1] at this
      exact .inr ⟨e, this⟩
    · exact .inl ⟨by simpa using e, by rw [← hp.1]; exact mean_zero (by rw [hp.2]; exact e)⟩
  have HCS := Lib.hid hcs
  have HR := Lib.hid hr
  have HX := Lib.hid hx
  have HP := Lib.hid hp
  have hff : I64 f := ⟨by omega, by omega⟩
  have HM := Lib.hid (fun (w' : World) (hr' : Row w' 0 A (mcells xs)) => mean_any f A xs c w' hr' hx hff (by omega) x y hp)
  obtain ⟨n, hn⟩ : ∃ n, xs.length = n := ⟨_, rfl⟩
  rw [hn] at hl HM ⊢
  have HN := Lib.hid hn
  have hn2 : decide ((32 : Int) < (n : Int)) = false := by simp; omega
  have hf2 : decide ((1152921504606846976 : Int) < f) = false := by simp; omega
  clear hcs hr hx hp hn hff
  go_enter Try.func6, Try.ntmps6
  go_wp2_with fail
  refine (awake12 _).mono ?_
  rintro e w1 ⟨rfl, hb⟩
  have HB := Lib.hid hb
  clear hb
  go_wp2_with fail
  go_loopw [5, 6, 28] (fun l h i wr => ∃ (k : Nat) (lo hi : Int), l = .int .i64 lo ∧ h = .int .i64 hi ∧ i = .int .i64 (k : Int) ∧ k ≤ n ∧ lo = loS f (xs.take k) ∧ hi = hiS f (xs.take k) ∧ (∀ m ∈ xs.take k, InR m) ∧ Below w.heap.size w wr) (fun _ _ i _ => n - (intOf i).toNat)
  case atStart => exact ⟨0, f, f, rfl, rfl, rfl, by omega, by simp [loS], by simp [hiS], by simp, HB.out⟩
  case round =>
    clear HB
    obtain ⟨k, lo, hi, rfl, rfl, rfl, hk, hlo, hhi, hin, hbe⟩ := hrel
    have HB := Lib.hid hbe
    have HLO := Lib.hid hlo
    have HHI := Lib.hid hhi
    have HIN := Lib.hid hin
    have hrg := lo_range f (xs.take k) hin
    rw [← hlo, ← hhi, List.length_take, HN.out] at hrg
    obtain ⟨r1, r2, r3, r4⟩ := hrg
    have r1' : f - 35184372088832 ≤ lo := by omega
    have r4' : hi ≤ f + 35184372088832 := by omega
    clear hbe hlo hhi hin r1 r4
    by_cases hlt : k < n
    · obtain ⟨ad, rfl, c0, c1⟩ := mb_cells (HR.out.below HB.out) (j := k) (by rw [HN.out]; exact hlt)
      obtain ⟨m, hm⟩ : ∃ m, m = xs[k]'(by rw [HN.out]; exact hlt) := ⟨_, rfl⟩
      have hmi : m.I := by rw [hm]; exact HX.out _ (List.getElem_mem _)
      have htk : xs.take (k + 1) = xs.take k ++ [m] := by rw [List.take_succ_eq_append_getElem (by rw [HN.out]; exact hlt), ← hm]
      rw [← hm] at c0 c1
      obtain ⟨a, ch⟩ := m
      dsimp only at c0 c1
      have HT := Lib.hid htk
      have g0 : (0 : Int) ≤ (k : Int) := Int.natCast_nonneg _
      have g1 : (k : Int) < (n : Int) := by omega
      clear hm hmi htk
      by_cases h1 : a < -1099511627776
      · have b1 : decide (a < -1099511627776) = true := by simpa using h1
        clear h1
        go_wp2_with fail
        go_ret
        exact ⟨rfl, HB.out.trans ((alloc1 _ _).mono HB.out.size)⟩
      · have b1 : decide (a < -1099511627776) = false := by simpa using h1
        by_cases h2 : 1099511627776 < a
        · have b2 : decide (1099511627776 < a) = true := by simpa using h2
          clear h1 h2
          go_wp2_with fail
          go_ret
          exact ⟨rfl, HB.out.trans ((alloc1 _ _).mono HB.out.size)⟩
        · have b2 : decide (1099511627776 < a) = false := by simpa using h2
          have ha1 : -1099511627776 ≤ a := by omega
          have ha2 : a ≤ 1099511627776 := by omega
          clear h1 h2
          by_cases h3 : a < 0
          · have E1 := Lib.hid (show min a 0 = a by omega)
            have E2 := Lib.hid (show max a 0 = 0 by omega)
            go_wp2_with fail
            go_roundw
            case rel =>
              refine ⟨k + 1, _, _, rfl, rfl, by go_num, by omega, ?_, ?_, ?_, HB.out.trans ((alloc1 _ _).mono HB.out.size)⟩
              · rw [HT.out, loS_snoc, ← HLO.out, E1.out]
              · rw [HT.out, hiS_snoc, ← HHI.out, E2.out]; omega
              · rw [HT.out]; intro m hm
                rcases List.mem_append.1 hm with hm | hm
                · exact HIN.out m hm
                · obtain rfl : m = _ := by simpa using hm
                  exact ⟨ha1, ha2⟩
            case measure => simp only [intOf]; omega
          · have E1 := Lib.hid (show min a 0 = 0 by omega)
            have E2 := Lib.hid (show max a 0 = a by omega)
            go_wp2_with fail
            go_roundw
            case rel =>
              refine ⟨k + 1, _, _, rfl, rfl, by go_num, by omega, ?_, ?_, ?_, HB.out.trans ((alloc1 _ _).mono HB.out.size)⟩
              · rw [HT.out, loS_snoc, ← HLO.out, E1.out]; omega
              · rw [HT.out, hiS_snoc, ← HHI.out, E2.out]
              · rw [HT.out]; intro m hm
                rcases List.mem_append.1 hm with hm | hm
                · exact HIN.out m hm
                · obtain rfl : m = _ := by simpa using hm
                  exact ⟨ha1, ha2⟩
            case measure => simp only [intOf]; omega
    · obtain rfl : k = n := by omega
      have htk : xs.take k = xs := List.take_of_length_le (by rw [HN.out]; omega)
      have hlo2 : lo = loS f xs := by rw [HLO.out, htk]
      have hhi2 : hi = hiS f xs := by rw [HHI.out, htk]
      have hcs := HCS.out
      rw [← hlo2, ← hhi2] at hcs
      clear htk hlo2 hhi2
      rcases hcs with ⟨k1, rfl⟩ | ⟨rfl, k1, k2⟩
      all_goals
        go_wp2_with fail
        refine (HM.out _ (HR.out.below HB.out)).mono ?_
        rintro e w2 ⟨rfl, hb⟩
        have HB := Lib.hid (HB.out.trans (hb.mono HB.out.size))
        clear hb
        go_wp2_with fail
        go_ret
        exact ⟨rfl, HB.out⟩
set_option maxHeartbeats 1000000 in
set_option maxRecDepth 100000 in
theorem mean_out (f : Int) (A : Option Addr) (n c : Nat) (w : World) (h : 32 < n ∨ f < 0 ∨ 1152921504606846976 < f) (hn : n ≤ 140737488351232) :
    Calls Try.prog 6 #[.int .i64 f, .slice A n c] w fun e w' => e = .returned (.bool true) ∧ Below w.heap.size w w' := by
  have hcs : (decide ((32 : Int) < (n : Int)) = true) ∨ (decide ((32 : Int) < (n : Int)) = false ∧ f < 0) ∨ (decide ((32 : Int) < (n : Int)) = false ∧ 0 ≤ f ∧ decide ((1152921504606846976 : Int) < f) = true) := by
    simp; omega
  clear h
  rcases hcs with h1 | ⟨h1, h2⟩ | ⟨h1, h2, h3⟩
  all_goals
    go_enter Try.func6, Try.ntmps6
    go_wp2_with fail
    refine (awake12 _).mono ?_
    rintro e w1 ⟨rfl, hb⟩
    have HB := Lib.hid hb
    clear hb
    go_wp2_with fail
    go_ret
    exact ⟨rfl, HB.out⟩
theorem mean_walk (f : Int) (A : Option Addr) (xs : List Mb) (c : Nat) (w : World) (hf : I64 f) (hx : ∀ m ∈ xs, Mb.I m) (hr : Row w 0 A (mcells xs)) (hl : xs.length * 16 ≤ 140737488351232) :
    Calls Try.prog 6 #[.int .i64 f, .slice A xs.length c] w fun e w' => e = .returned (.bool true) ∧ Below w.heap.size w w' := by
  by_cases h : 32 < xs.length ∨ f < 0 ∨ 1152921504606846976 < f
  · exact mean_out f A xs.length c w h (by omega)
  · exact mean_in f A xs c w hr hx (by omega) (by omega) (by omega) _ _ ⟨rfl, rfl⟩
end Go.Proofs.Ytejkamgidhpcjaa.CO
