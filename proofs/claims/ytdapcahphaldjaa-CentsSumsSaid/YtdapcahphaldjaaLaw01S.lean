/- The walk of the law CentsSums. -/
import Derived.Test.YtdapcahphaldjaaTotal
import Derived.Test.YtdapcahphaldjaaLaw01
namespace Go.Proofs.Ytdapcahphaldjaa.Cents
open Go.RowKit Go.Proofs.Ytdapcahphaldjaa.Exact
set_option linter.unusedVariables false
set_option linter.unusedSimpArgs false

theorem fit_is (v : Value) (n : Int) (k : Nat) (w : World) (h : Ex w (fun _ => True) v n k) (hk : k ≤ 90000) (hk7 : 7 ≤ k) (x y : Int) (hx : fitN n = x ∧ fitE n = y) :
    Calls Try.prog 34 #[v] w fun e w' => e = .returned (.tuple #[.int .i64 x, .int .i64 y]) ∧ Below w.heap.size w w' :=
  (fit_any v n k w h hk hk7).mono fun _ _ ⟨h1, h2⟩ => ⟨by rw [h1]; unfold fitT; rw [hx.1, hx.2], h2⟩
theorem add_is (a b : Int) (w : World) (ha : I64 a) (hb : I64 b) (x y : Int) (hx : fitN (a + b) = x ∧ fitE (a + b) = y) :
    Calls Try.prog 31 #[.int .i64 a, .int .i64 b] w fun e w' => e = .returned (.tuple #[.int .i64 x, .int .i64 y]) ∧ w = w' :=
  (add_any a b w ha hb).mono fun _ _ ⟨h1, h2⟩ => ⟨by rw [h1]; unfold addV; unfold fitN fitE at hx; by_cases c : I64 (a + b) <;> simp only [c, if_true, if_false] at hx ⊢ <;> rw [← hx.1, ← hx.2], h2⟩
theorem less_is (a b : Int) (w : World) (ha : I64 a) (hb : I64 b) (x y : Int) (hx : fitN (a - b) = x ∧ fitE (a - b) = y) :
    Calls Try.prog 37 #[.int .i64 a, .int .i64 b] w fun e w' => e = .returned (.tuple #[.int .i64 x, .int .i64 y]) ∧ w = w' :=
  (less_any a b w ha hb).mono fun _ _ ⟨h1, h2⟩ => ⟨by rw [h1]; unfold lessV; unfold fitN fitE at hx; by_cases c : I64 (a - b) <;> simp only [c, if_true, if_false] at hx ⊢ <;> rw [← hx.1, ← hx.2], h2⟩
theorem of_is (n : Int) (w : World) (hn : I64 n) : Calls Try.prog 36 #[.int .i64 n] w (RetEx w (fun _ => True) n 7) := of_any _ n w (fun _ _ => trivial) hn

set_option maxHeartbeats 2000000 in
set_option maxRecDepth 100000 in
theorem sums_walk (a b c : Int) (A : Option Addr) (xs : List Int) (cap : Nat) (w : World) (ha : I64 a) (hb : I64 b) (hc : I64 c) (hx : ∀ x ∈ xs, I64 x) (hr : Row w 0 A (ints xs)) (hl : xs.length * 8 ≤ 140737488351232) :
    Calls Try.prog 9 #[.int .i64 a, .int .i64 b, .int .i64 c, .slice A xs.length cap] w fun e w' => e = .returned (.bool true) ∧ Below w.heap.size w w' := by
  have HA := Lib.hid ha
  have HB := Lib.hid hb
  have HX := Lib.hid hx
  have HR := Lib.hid hr
  have HL := Lib.hid hl
  clear ha hb hc hx hr hl
  by_cases hlen : 200 < xs.length
  · go_enter Try.func9, Try.ntmps9
    go_wp2_with fail
    refine (awake01 _).mono ?_
    rintro e w1 ⟨rfl, hb1⟩
    have HB1 := Lib.hid hb1
    clear hb1
    go_wp2_with fail
    go_ret
    exact ⟨rfl, HB1.out⟩
  · obtain ⟨x1, hx1⟩ : ∃ x, fitN (a + b) = x := ⟨_, rfl⟩
    obtain ⟨y1, hy1⟩ : ∃ x, fitE (a + b) = x := ⟨_, rfl⟩
    obtain ⟨x2, hx2⟩ : ∃ x, fitN (a - b) = x := ⟨_, rfl⟩
    obtain ⟨y2, hy2⟩ : ∃ x, fitE (a - b) = x := ⟨_, rfl⟩
    obtain ⟨x3, hx3⟩ : ∃ x, fitN xs.sum = x := ⟨_, rfl⟩
    obtain ⟨y3, hy3⟩ : ∃ x, fitE xs.sum = x := ⟨_, rfl⟩
    have S1 := Lib.hid (And.intro hx1 hy1)
    have S2 := Lib.hid (And.intro hx2 hy2)
    have S3 := Lib.hid (And.intro hx3 hy3)
    clear hx1 hy1 hx2 hy2 hx3 hy3
    obtain ⟨cv, hcv⟩ : ∃ x, clampV a b c = x := ⟨_, rfl⟩
    have CV := Lib.hid hcv
    have hcase : (a < b ∧ b = cv) ∨ (b ≤ a ∧ c < a ∧ c = cv) ∨ (b ≤ a ∧ a ≤ c ∧ a = cv) := by
      rw [← hcv]; unfold clampV
      by_cases h1 : a < b
      · rw [if_pos h1]; exact .inl ⟨h1, rfl⟩
      · rw [if_neg h1]
        by_cases h2 : c < a
        · rw [if_pos h2]; exact .inr (.inl ⟨by omega, h2, rfl⟩)
        · rw [if_neg h2]; exact .inr (.inr ⟨by omega, by omega, rfl⟩)
    clear hcv
    rcases hcase with ⟨h1, rfl⟩ | ⟨h1, h2, rfl⟩ | ⟨h1, h2, rfl⟩
    all_goals
      go_enter Try.func9, Try.ntmps9
      go_wp2_with fail
      refine (awake01 _).mono ?_
      rintro e w1 ⟨rfl, hb1⟩
      have L1 : Hid (Later w w1) := hb1
      clear hb1
      go_wp2_with fail
      refine (add_is _ _ _ HA.out HB.out x1 y1 S1.out).mono ?_
      rintro e w2 ⟨rfl, rfl⟩
      have L2 := L1
      go_wp2_with fail
      refine (of_is _ _ HA.out).mono ?_
      rintro e w3 ⟨va, rfl, hx3, hb3⟩
      have L3 := Lib.hid (L2.out.trans hb3)
      have Xva := Lib.hid hx3
      have B3 := Lib.hid hb3
      clear hb3 hx3
      go_wp2_with fail
      refine (of_is _ _ HB.out).mono ?_
      rintro e w4 ⟨vb, rfl, hx4, hb4⟩
      have L4 := Lib.hid (L3.out.trans hb4)
      have Xvb := Lib.hid hx4
      have B4 := Lib.hid hb4
      clear hb4 hx4
      go_wp2_with fail
      refine (plus_any (fun _ => True) _ _ a b 7 _ (fun _ _ => trivial) (Xva.out.below B4.out) Xvb.out (by decide)).mono ?_
      rintro e w5 ⟨vc, rfl, hx5, hb5⟩
      have L5 := Lib.hid (L4.out.trans hb5)
      have Xvc := Lib.hid hx5
      have B5 := Lib.hid hb5
      clear hb5 hx5
      go_wp2_with fail
      refine (fit_is _ (a + b) 8 _ Xvc.out (by decide) (by decide) x1 y1 S1.out).mono ?_
      rintro e w6 ⟨rfl, hb6⟩
      have L6 := Lib.hid (L5.out.trans hb6)
      clear hb6
      go_wp2_with fail
      refine (less_is _ _ _ HA.out HB.out x2 y2 S2.out).mono ?_
      rintro e w7 ⟨rfl, rfl⟩
      have L7 := L6
      go_wp2_with fail
      refine (of_is _ _ HA.out).mono ?_
      rintro e w8 ⟨vd, rfl, hx8, hb8⟩
      have L8 := Lib.hid (L7.out.trans hb8)
      have Xvd := Lib.hid hx8
      have B8 := Lib.hid hb8
      clear hb8 hx8
      go_wp2_with fail
      refine (of_is _ _ HB.out).mono ?_
      rintro e w9 ⟨ve, rfl, hx9, hb9⟩
      have L9 := Lib.hid (L8.out.trans hb9)
      have Xve := Lib.hid hx9
      have B9 := Lib.hid hb9
      clear hb9 hx9
      go_wp2_with fail
      refine (Exact.less_any (fun _ => True) _ _ a b 7 _ (fun _ _ => trivial) (Xvd.out.below B9.out) Xve.out (by decide)).mono ?_
      rintro e w10 ⟨vf, rfl, hx10, hb10⟩
      have L10 := Lib.hid (L9.out.trans hb10)
      have Xvf := Lib.hid hx10
      have B10 := Lib.hid hb10
      clear hb10 hx10
      go_wp2_with fail
      refine (fit_is _ (a - b) 8 _ Xvf.out (by decide) (by decide) x2 y2 S2.out).mono ?_
      rintro e w11 ⟨rfl, hb11⟩
      have L11 := Lib.hid (L10.out.trans hb11)
      clear hb11
      go_wp2_with fail
      refine (sum_is _ xs _ _ x3 y3 HX.out (HR.out.below L11.out) HL.out S3.out).mono ?_
      rintro e w12 ⟨rfl, hb12⟩
      have L12 := Lib.hid (L11.out.trans hb12)
      clear hb12
      go_wp2_with fail
      refine (total_any (fun _ => True) _ xs _ _ (fun _ _ => trivial) HX.out (HR.out.below L12.out) (by omega)).mono ?_
      rintro e w13 ⟨vg, rfl, hx13, hb13⟩
      have L13 := Lib.hid (L12.out.trans hb13)
      have Xvg := Lib.hid hx13
      have B13 := Lib.hid hb13
      clear hb13 hx13
      go_wp2_with fail
      refine (fit_is _ xs.sum (xs.length + 7) _ Xvg.out (by omega) (by omega) x3 y3 S3.out).mono ?_
      rintro e w14 ⟨rfl, hb14⟩
      have L14 := Lib.hid (L13.out.trans hb14)
      clear hb14
      go_wp2_with fail
      refine (clamp_is _ _ _ _ _ CV.out).mono ?_
      rintro e w15 ⟨rfl, rfl⟩
      have L15 := L14
      go_wp2_with fail
      go_ret
      exact ⟨rfl, L15.out⟩
end Go.Proofs.Ytdapcahphaldjaa.Cents
