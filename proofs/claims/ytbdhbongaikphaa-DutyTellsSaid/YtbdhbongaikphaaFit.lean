/- The walk of the reference's Fit, of a number that fits; and of whatever number. -/
import Derived.Test.YtbdhbongaikphaaExactB
namespace Go.Proofs.Ytbdhbongaikphaa.Exact
open Go.RowKit Go.Proofs.Ytbdhbongaikphaa.Cents
set_option linter.unusedVariables false
set_option linter.unusedSimpArgs false

set_option maxHeartbeats 2000000 in
set_option maxRecDepth 100000 in
theorem fit_in (v : Value) (n : Int) (k : Nat) (w : World) (h : Ex w (fun _ => True) v n k) (hk : k ≤ 90000) (hk7 : 7 ≤ k) (hn : I64 n) :
    Calls Try.prog 22 #[v] w fun e w' => e = .returned (.tuple #[.int .i64 n, .int .i64 0]) ∧ Below w.heap.size w w' := by
  have HA := Lib.hid h
  obtain ⟨a, A, ca, rfl, hac, hak, har, hat⟩ := h
  obtain ⟨x, hs⟩ : ∃ x, EM.sgn (n - 9223372036854775807) = x := ⟨_, rfl⟩
  obtain ⟨y, hs2⟩ : ∃ y, EM.sgn (n - (-9223372036854775808)) = y := ⟨_, rfl⟩
  have hx0 : x ≤ 0 := by rw [← hs]; have := hn.2; unfold EM.sgn; repeat' split <;> omega
  have hy0 : 0 ≤ y := by rw [← hs2]; have := hn.1; unfold EM.sgn; repeat' split <;> omega
  have hbx : decide ((0 : Int) < x) = false := by simp; omega
  have hby : decide (y < (0 : Int)) = false := by simp; omega
  have DA := Lib.hid hat.digs
  have VA := Lib.hid hat.val
  have HI := Lib.hid hn
  have RA := Lib.hid har
  have NZ := Lib.hid (fun h : n = 0 => show a.length = 0 by rw [hat.nil_iff.2 h]; rfl)
  clear har hat
  have HS := Lib.hid hs
  have HS2 := Lib.hid hs2
  clear hs hs2 hn
  generalize hsn : EM.sgn n = sn at *
  have SN := Lib.hid hsn
  clear hsn
  go_enter Try.func22, Try.ntmps22
  go_wp2_with fail
  have xa := Blk.new w 64 #[.int .i64 sn, .slice A a.length ca]
  have b1 := Below.alloc1 w (.cells #[.int .i64 sn, .slice A a.length ca] 64)
  revert xa b1
  generalize (w.alloc (.cells #[.int .i64 sn, .slice A a.length ca] 64)) = W
  intro xa b1
  have e1 : W.cell? ⟨w.heap.size, 0, none⟩ = some (.int .i64 sn) := xa.cell 0
  have e2 : W.cell? ⟨w.heap.size, 1, none⟩ = some (.slice A a.length ca) := xa.cell 1
  have XA := Lib.hid xa
  have B1 := Lib.hid b1
  clear xa b1
  have HL0 := Lib.hid ((Later.refl W).drew)
  go_region_held3 (fun w' => w'.cell? ⟨w.heap.size, 0, none⟩ = some (.int .i64 sn) ∧ w'.cell? ⟨w.heap.size, 1, none⟩ = some (.slice A a.length ca))
    (first | (go_keep; done) | (go_split_ands; exact ⟨c1, c2⟩) | (go_split_ands; exact ⟨d1, d2⟩) | (go_split_ands; exact ⟨c3, c4⟩) | (go_split_ands; exact ⟨d3, d4⟩))
    (first
      | (go_at_call_of 21 (Value.int IntKind.i64 9223372036854775807); refine (of_any (fun _ => True) 9223372036854775807 _ ?_ ?_).mono ?_; exact fun _ _ => trivial; decide; rintro e w1 ⟨vm, rfl, hxm, hb1⟩; have HL1 := Lib.hid (HL0.out.trans hb1); have HM := Lib.hid hxm; clear hxm hb1; have c1 : w1.cell? ⟨w.heap.size, 0, none⟩ = some (.int .i64 sn) := HL1.out.cell e1; have c2 : w1.cell? ⟨w.heap.size, 1, none⟩ = some (.slice A a.length ca) := HL1.out.cell e2)
      | (go_at_call_of 38 vm; refine (cmp_any _ _ n 9223372036854775807 k _ ?_ ?_ (by omega) x HS.out).mono ?_; exact (HA.out.below B1.out).later HL1.out; exact HM.out.more hk7; rintro e w2 ⟨rfl, hb2⟩; have HL2 := Lib.hid (HL1.out.trans hb2); clear hb2; have d1 : w2.cell? ⟨w.heap.size, 0, none⟩ = some (.int .i64 sn) := HL2.out.cell e1; have d2 : w2.cell? ⟨w.heap.size, 1, none⟩ = some (.slice A a.length ca) := HL2.out.cell e2)
      | (go_at_call 21; refine (of_any (fun _ => True) (-9223372036854775808) _ ?_ ?_).mono ?_; exact fun _ _ => trivial; decide; rintro e w3 ⟨vl, rfl, hxl, hb3⟩; have HL3 := Lib.hid (HL2.out.trans hb3); have HN := Lib.hid hxl; clear hxl hb3; have c3 : w3.cell? ⟨w.heap.size, 0, none⟩ = some (.int .i64 sn) := HL3.out.cell e1; have c4 : w3.cell? ⟨w.heap.size, 1, none⟩ = some (.slice A a.length ca) := HL3.out.cell e2)
      | (go_at_call 38; refine (cmp_any _ _ n (-9223372036854775808) k _ ?_ ?_ (by omega) y HS2.out).mono ?_; exact (HA.out.below B1.out).later HL3.out; exact HN.out.more hk7; rintro e w4 ⟨rfl, hb4⟩; have HL4 := Lib.hid (HL3.out.trans hb4); clear hb4; have d3 : w4.cell? ⟨w.heap.size, 0, none⟩ = some (.int .i64 sn) := HL4.out.cell e1; have d4 : w4.cell? ⟨w.heap.size, 1, none⟩ = some (.slice A a.length ca) := HL4.out.cell e2))
  go_wp2_with fail
  have HL := Lib.hid HL4.out
  clear d1 d2 c1 c2 c3 c4 d3 d4 hbx hby
  go_loopw [4, 5] (fun v i wr => ∃ (acc : Int) (j : Nat), v = .int .i64 acc ∧ i = .int .i64 ((j : Int) - 1) ∧ j ≤ a.length ∧ acc = sn * EM.val (a.drop j) ∧ Later W wr) (fun _ i _ => (intOf i + 1).toNat)
  case atStart => exact ⟨0, a.length, rfl, rfl, Nat.le_refl _, by simp [EM.val], HL.out⟩
  case round =>
    obtain ⟨acc, j, rfl, rfl, hj, hacc, hl⟩ := hrel
    have f1 : wr.cell? ⟨w.heap.size, 0, none⟩ = some (.int .i64 sn) := Later.cell hl e1
    have f2 : wr.cell? ⟨w.heap.size, 1, none⟩ = some (.slice A a.length ca) := Later.cell hl e2
    rcases j with _ | j
    · have hr : acc = n := by
        rw [hacc, List.drop_zero, VA.out, ← SN.out]; unfold EM.sgn; repeat' split
        all_goals omega
      have HR := Lib.hid hr
      have HLL := Lib.hid hl
      clear hacc hl hr
      go_wp2
      go_ret2
      exact ⟨by rw [← HR.out]; rfl, Below.trans B1.out (HLL.out.mono B1.out.size)⟩
    · have hvd := EM.val_drop (ds := a) (i := j) (by omega)
      obtain ⟨x0, x1⟩ := EM.dig_range DA.out j
      have hle := EM.val_drop_le DA.out j
      have hge := EM.val_nonneg (EM.digs_drop DA.out (j + 1))
      rw [VA.out] at hle
      obtain ⟨ad, hA, hc⟩ := RowF.dig (((RA.out.below B1.out).below hl)) (show j < a.length by omega)
      subst hA
      have HLL := Lib.hid hl
      have HAC := Lib.hid hacc
      have HVD := Lib.hid hvd
      generalize hx : EM.dig a j = d at *
      generalize hy : EM.val (a.drop (j + 1)) = u at *
      clear hl hacc hvd hx hy
      rw [show ((j + 1 : Nat) : Int) - 1 = (j : Int) by omega]
      have g0 : (0 : Int) ≤ (j : Int) := Int.natCast_nonneg _
      have g1 : (j : Int) < (a.length : Int) := by omega
      have hn0 : n ≠ 0 := fun h => by have := NZ.out h; omega
      have hn1 := HI.out.1
      have hn2 := HI.out.2
      rcases Int.lt_or_le n 0 with hneg | hpos
      · obtain rfl : sn = -1 := by rw [← SN.out]; unfold EM.sgn; rw [if_pos hneg]
        have ha : acc = -u := by rw [HAC.out]; omega
        have w1 : IntKind.i64.wrap (1000 * acc) = 1000 * acc := IntWalk.i64_in _ (by have := HVD.out; omega)
        have w2 : IntKind.i64.wrap (-d) = -d := IntWalk.i64_in _ (by omega)
        have w3 : IntKind.i64.wrap (1000 * acc + -d) = 1000 * acc + -d := IntWalk.i64_in _ (by have := HVD.out; omega)
        have HA2 := Lib.hid ha
        clear ha hn0 hn1 hn2 hle
        go_wp2_with fail
        go_quiet (fail)
        clear w1 w2 w3
        go_wp2_with fail
        go_roundw
        case rel => exact ⟨_, j, rfl, rfl, by omega, by rw [HVD.out, HA2.out]; omega, Later.drewN HLL.out _⟩
        case measure => simp [intOf]
      · obtain rfl : sn = 1 := by rw [← SN.out]; unfold EM.sgn; rw [if_neg (by omega), if_neg hn0]
        have ha : acc = u := by rw [HAC.out]; omega
        have w1 : IntKind.i64.wrap (1000 * acc) = 1000 * acc := IntWalk.i64_in _ (by have := HVD.out; omega)
        have w2 : IntKind.i64.wrap d = d := IntWalk.i64_in _ (by omega)
        have w3 : IntKind.i64.wrap (1000 * acc + d) = 1000 * acc + d := IntWalk.i64_in _ (by have := HVD.out; omega)
        have HA2 := Lib.hid ha
        clear ha hn0 hn1 hn2 hle
        go_wp2_with fail
        go_quiet (fail)
        clear w1 w2 w3
        go_wp2_with fail
        go_roundw
        case rel => exact ⟨_, j, rfl, rfl, by omega, by rw [HVD.out, HA2.out]; omega, Later.drewN HLL.out _⟩
        case measure => simp [intOf]

theorem fit_any (v : Value) (n : Int) (k : Nat) (w : World) (h : Ex w (fun _ => True) v n k) (hk : k ≤ 90000) (hk7 : 7 ≤ k) :
    Calls Try.prog 22 #[v] w fun e w' => e = .returned (fitT n) ∧ Below w.heap.size w w' := by
  unfold fitT fitN fitE
  by_cases c : I64 n
  · rw [if_pos c, if_pos c]; exact fit_in v n k w h hk hk7 c
  · rw [if_neg c, if_neg c]
    rcases Int.lt_or_le n (-9223372036854775808) with d | d
    · exact fit_under v n k w h hk hk7 d
    · exact fit_over v n k w h hk hk7 (by unfold I64 at c; omega)
end Go.Proofs.Ytbdhbongaikphaa.Exact
