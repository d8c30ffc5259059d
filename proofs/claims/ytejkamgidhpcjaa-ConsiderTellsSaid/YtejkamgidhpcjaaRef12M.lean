/- The walk of the reference's Mean. -/
import Derived.Test.YtejkamgidhpcjaaRef12
namespace Go.Proofs.Ytejkamgidhpcjaa.CO
open Go.RowKit Go.Proofs.Ytejkamgidhpcjaa.Cents Go.Proofs.Ytejkamgidhpcjaa.Exact
set_option linter.unusedVariables false
set_option linter.unusedSimpArgs false

set_option maxHeartbeats 4000000 in
set_option maxRecDepth 100000 in
theorem rmean_ok (f : Int) (A : Option Addr) (xs : List Mb) (c : Nat) (w : World) (hr : Row w 0 A (mcells xs)) (hi : ∀ m ∈ xs, Mb.I m) (hf : I64 f) (h0 : checkE f xs 0 = 0) (x y : Int) (hp : priceN (meanS f xs) = x ∧ priceE (meanS f xs) = y) :
    Calls Try.prog 15 #[.int .i64 f, .slice A xs.length c] w fun e w' => e = .returned (.tuple #[.int .i64 x, .int .i64 y]) ∧ Below w.heap.size w w' := by
  obtain ⟨hl32, hf0, hb0, hb1, hch⟩ := check_ok h0
  have HC := Lib.hid (rwrong_any f 0 A xs c w hr (by omega) 0 h0)
  have HFT := Lib.hid (mean_fits hi hch hl32)
  have HR := Lib.hid hr
  have HI := Lib.hid hi
  have HF := Lib.hid hf
  have HP := Lib.hid hp
  have HCH := Lib.hid hch
  obtain ⟨n, hn⟩ : ∃ n, xs.length = n := ⟨_, rfl⟩
  rw [hn] at hl32 HC ⊢
  have HN := Lib.hid hn
  clear hr hi hf hp hch hn h0
  go_enter Try.func15, Try.ntmps15
  go_wp2_with fail
  refine HC.out.mono ?_
  rintro e w1 ⟨rfl, rfl⟩
  go_wp2_with fail
  have HA := Lib.hid (AccW.zero w w 16 (Below.refl _ _))
  obtain ⟨Q, hQ⟩ : ∃ Q, Q = w.heap.size := ⟨_, rfl⟩
  have HB0 := Lib.hid (Below.alloc1 w (.cells #[.int .i64 0, .slice none 0 0] 54))
  rw [← hQ] at HA ⊢
  generalize (w.alloc (.cells #[.int .i64 0, .slice none 0 0] 54)) = W at HA ⊢
  clear hQ HC HB0
  go_loopw [8] (fun v wr => ∃ (k : Nat) (x : XV), v = .int .i64 (k : Int) ∧ k ≤ n ∧ AccW w Q x (prods (xs.take k)) (16 + k) wr) (fun v _ => n - (intOf v).toNat)
  case atStart => exact ⟨0, _, rfl, by omega, by simpa [prods] using HA.out⟩
  case round =>
    clear HA
    obtain ⟨k, ⟨sx, X, nx, cx⟩, rfl, hk, ha⟩ := hrel
    have HA := Lib.hid ha
    have a1 : wr.cell? ⟨Q, 0, none⟩ = some (.int .i64 sx) := ha.bx.cell 0
    have a2 : wr.cell? ⟨Q, 1, none⟩ = some (.slice X nx cx) := ha.bx.cell 1
    clear ha
    by_cases hlt : k < n
    · have HRR := Lib.hid (HR.out.below HA.out.be)
      obtain ⟨ad, rfl, c0, c1⟩ := mb_cells HRR.out (j := k) (by rw [HN.out]; exact hlt)
      obtain ⟨m, hm⟩ : ∃ m, m = xs[k]'(by rw [HN.out]; exact hlt) := ⟨_, rfl⟩
      have hmi : m.I := by rw [hm]; exact HI.out _ (List.getElem_mem _)
      have hts : prods (xs.take (k + 1)) = prods (xs.take k) + m.a * m.ch := by
        rw [List.take_succ_eq_append_getElem (by rw [HN.out]; exact hlt), prods_snoc, ← hm]
      rw [← hm] at c0 c1
      obtain ⟨a, ch⟩ := m
      dsimp only at c0 c1 hts
      have HT := Lib.hid hts
      have HIA := Lib.hid hmi.1
      have HIC := Lib.hid hmi.2
      have g0 : (0 : Int) ≤ (k : Int) := Int.natCast_nonneg _
      have g1 : (k : Int) < (n : Int) := by omega
      generalize prods (xs.take k) = s at HA HT
      clear hts hm hmi
      go_wp2_with fail
      have HL := Lib.hid ((Later.refl wr).drew)
      have e0 : (wr.drew).cell? ⟨Q, 0, none⟩ = some (.int .i64 sx) := a1
      go_region_with
        (first
          | (go_at_call_of 30 (Value.int IntKind.i64 a); refine (of_any (fun q => q ≠ Q) a _ ?_ HIA.out).mono ?_; exact (HA.out.later HL.out).new; rintro e w3 ⟨v3, rfl, hx3, hb3⟩; have HL := Lib.hid (HL.out.trans hb3); have HX3 := Lib.hid hx3; clear hx3 hb3; have b1 := HL.out.cell a1; have b2 := HL.out.cell a2; have b3 := HL.out.cell c0; have b4 := HL.out.cell c1)
          | (go_at_call 30; refine (of_any (fun q => q ≠ Q) ch _ ?_ HIC.out).mono ?_; exact (HA.out.later HL.out).new; rintro e w4 ⟨v4, rfl, hx4, hb4⟩; have HX3 := Lib.hid (HX3.out.below hb4); have HL := Lib.hid (HL.out.trans hb4); have HX4 := Lib.hid hx4; clear hx4 hb4; have b1 := HL.out.cell a1; have b2 := HL.out.cell a2; have b3 := HL.out.cell c0; have b4 := HL.out.cell c1)
          | (go_at_call 33; refine (by_any (fun q => q ≠ Q) _ _ a ch 7 _ ?_ HX3.out HX4.out (by decide)).mono ?_; exact (HA.out.later HL.out).new; rintro e w5 ⟨v5, rfl, hx5, hb5⟩; have HL := Lib.hid (HL.out.trans hb5); have HX5 := Lib.hid hx5; clear hx5 hb5; have b1 := HL.out.cell a1; have b2 := HL.out.cell a2)
          | (go_at_call 31; refine (plus_any (fun q => q ≠ Q) _ _ s (a * ch) (16 + k) _ ?_ ?_ ?_ (by omega)).mono ?_; exact (HA.out.later HL.out).new; exact (HA.out.later HL.out).ex; exact HX5.out.more (by omega); rintro e w6 ⟨v6, rfl, hx6, hb6⟩; obtain ⟨⟨s6, E6, l6, c6⟩, rfl⟩ := hx6.xv; have HL := Lib.hid (HL.out.trans hb6); have HX6 := Lib.hid hx6; clear hx6 hb6; have HA6 := Lib.hid (HA.out.later HL.out); have d1 : w6.cell? ⟨Q, 0, none⟩ = some (.int .i64 sx) := HA6.out.bx.cell 0; have d2 : w6.cell? ⟨Q, 1, none⟩ = some (.slice X nx cx) := HA6.out.bx.cell 1; have d3 := HA6.out.bx.frozen 0; have d4 := HA6.out.bx.frozen 1; try dsimp only [XV.val]))
      all_goals
        go_wp2_with fail
        go_roundw
        case rel => exact ⟨k + 1, ⟨s6, E6, l6, c6⟩, by go_num, by omega, by rw [HT.out]; exact HA6.out.set ⟨s6, E6, l6, c6⟩ HX6.out⟩
        case measure => simp only [intOf]; omega
    · obtain rfl : k = n := by omega
      have htk : xs.take k = xs := List.take_of_length_le (by rw [HN.out]; omega)
      rw [htk] at HA
      clear htk
      go_wp2_with fail
      have HL := Lib.hid ((Later.refl wr).drew)
      have hx7 := HP.out
      unfold meanS at hx7
      have HP2 := Lib.hid hx7
      clear hx7
      go_region_held3 (fun w' => w'.cell? ⟨Q, 0, none⟩ = some (.int .i64 sx) ∧ w'.cell? ⟨Q, 1, none⟩ = some (.slice X nx cx))
        (first | (go_split_ands; exact ⟨b1, b2⟩) | (go_keep; done))
        (first
          | (go_at_call_of 30 (Value.int IntKind.i64 f); refine (of_any (fun _ => True) f _ (fun _ _ => trivial) HF.out).mono ?_; rintro e w3 ⟨v3, rfl, hx3, hb3⟩; have HL := Lib.hid (HL.out.trans hb3); have HX3 := Lib.hid hx3; clear hx3 hb3; have b1 := HL.out.cell a1; have b2 := HL.out.cell a2)
          | (go_at_call 30; refine (of_any (fun _ => True) 10000 _ (fun _ _ => trivial) ⟨by decide, by decide⟩).mono ?_; rintro e w4 ⟨v4, rfl, hx4, hb4⟩; have HX3 := Lib.hid (HX3.out.below hb4); have HL := Lib.hid (HL.out.trans hb4); have HX4 := Lib.hid hx4; clear hx4 hb4; have b1 := HL.out.cell a1; have b2 := HL.out.cell a2)
          | (go_at_call 34; refine (over_any (fun _ => True) _ _ (prods xs) 10000 (16 + k) _ (fun _ _ => trivial) ?_ ?_ (by omega) (by omega) (by decide) HFT.out.1 HFT.out.2).mono ?_; exact (HA.out.later HL.out).ex.any (by omega); exact HX4.out.more (by omega); rintro e w5 ⟨v5, rfl, hx5, hb5⟩; have HX3 := Lib.hid (HX3.out.below hb5); have HL := Lib.hid (HL.out.trans hb5); have HX5 := Lib.hid hx5; clear hx5 hb5; have b1 := HL.out.cell a1; have b2 := HL.out.cell a2)
          | (go_at_call 31; refine (plus_any (fun _ => True) _ _ f (prods xs / 10000) (16 + k + 600) _ (fun _ _ => trivial) (HX3.out.more (by omega)) HX5.out (by omega)).mono ?_; rintro e w6 ⟨v6, rfl, hx6, hb6⟩; have HL := Lib.hid (HL.out.trans hb6); have HX6 := Lib.hid hx6; clear hx6 hb6; have b1 := HL.out.cell a1; have b2 := HL.out.cell a2)
          | (go_at_call 32; refine (rprice_any _ _ (16 + k + 600 + 1) _ HX6.out (by omega) (by omega) x y HP2.out).mono ?_; rintro e w7 ⟨rfl, hb7⟩; have HL := Lib.hid (HL.out.trans hb7); clear hb7; have b1 := HL.out.cell a1; have b2 := HL.out.cell a2))
      all_goals
        go_wp2_with fail
        go_ret2
        exact ⟨rfl, HA.out.be.trans (Below.mono HL.out HA.out.be.size)⟩
end Go.Proofs.Ytejkamgidhpcjaa.CO
