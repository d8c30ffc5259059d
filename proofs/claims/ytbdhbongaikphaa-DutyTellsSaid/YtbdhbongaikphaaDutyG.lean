/- The walks of the reference's Charge and together. -/
import Derived.Test.YtbdhbongaikphaaDutyE
import Derived.Test.YtbdhbongaikphaaBookR4
import Derived.Test.YtbdhbongaikphaaAcc
import Derived.StillTailTactics
import Derived.Deep.RegionHeld3
import Derived.Test.YtbdhbongaikphaaDutyF
import Derived.Deep.DeepCutAuto
namespace Go.Proofs.Ytbdhbongaikphaa.BK
open Go.RowKit Go.Proofs.Ytbdhbongaikphaa.Cents Go.Proofs.Ytbdhbongaikphaa.DU Go.Proofs.Ytbdhbongaikphaa.Exact
set_option linter.unusedVariables false
set_option linter.unusedSimpArgs false

theorem fit_sum (x : Int) : fitN x = sumN x ∧ fitE x = sumE x := ⟨rfl, rfl⟩
set_option maxHeartbeats 4000000 in
set_option maxRecDepth 100000 in
theorem rcharge_any (A : Option Addr) (ls : List Ln) (c : Nat) (w : World) (hr : Row w 0 A (lcells ls)) (hl : ls.length ≤ 1000) (hI : ∀ i, i < ls.length → I64 (lnAt ls i).charge) (u v : Int) (huv : sumN (chL ls ls.length).sum = u ∧ sumE (chL ls ls.length).sum = v) :
    Calls Try.prog 10 #[.slice A ls.length c] w fun e w' => e = .returned (.tuple #[.int .i64 u, .int .i64 v]) ∧ Below w.heap.size w w' := by
  have HR := Lib.hid hr
  have HI := Lib.hid hI
  have HUV := Lib.hid huv
  obtain ⟨n, hn⟩ : ∃ n, ls.length = n := ⟨_, rfl⟩
  rw [hn] at hl HI HUV ⊢
  have HN := Lib.hid hn
  clear hr hI hn huv
  go_enter Try.func10, Try.ntmps10
  go_wp2_with fail
  have HZ := Lib.hid (AccW.zero w w (7 + 0) (Below.refl _ _))
  go_loopw [5] (fun v wr => ∃ (k : Nat) (X : XV), v = .int .i64 (k : Int) ∧ k ≤ n ∧ AccW w w.heap.size X (chL ls k).sum (7 + k) wr) (fun v _ => n - (intOf v).toNat)
  case atStart => exact ⟨0, _, rfl, by omega, HZ.out⟩
  case round =>
    clear HZ
    obtain ⟨k, X, rfl, hk, hA⟩ := hrel
    have HA := Lib.hid hA
    obtain ⟨sx, Xe, nx, cx⟩ := X
    have a1 : wr.cell? ⟨w.heap.size, 0, none⟩ = some (.int .i64 sx) := hA.bx.cell 0
    have a2 : wr.cell? ⟨w.heap.size, 1, none⟩ = some (.slice Xe nx cx) := hA.bx.cell 1
    have a3 := hA.bx.frozen 0
    have a4 := hA.bx.frozen 1
    have k0 : (0 : Int) ≤ (k : Int) := Int.natCast_nonneg _
    by_cases hlt : k < n
    · have hkl : k < ls.length := by rw [HN.out]; exact hlt
      obtain ⟨ad, rfl, x0, x1, x2, x3, x4⟩ := l_cells (HR.out.below hA.be) hkl
      have HCI := Lib.hid (HI.out k hlt)
      have HS := Lib.hid (show (chL ls (k + 1)).sum = (chL ls k).sum + (lnAt ls k).charge by rw [chL_succ, List.sum_append]; simp)
      obtain ⟨x, hx⟩ : ∃ x, lnAt ls k = x := ⟨_, rfl⟩
      rw [hx] at x0 x1 x2 x3 x4 HCI HS
      obtain ⟨t1, t2, t3, t4, t5⟩ := x
      dsimp only at x0 x1 x2 x3 x4 HCI HS
      obtain ⟨S0, hS0⟩ : ∃ S0, (chL ls k).sum = S0 := ⟨_, rfl⟩
      rw [hS0] at HA HS
      have k1 : (k : Int) < (n : Int) := by omega
      have hk7 : 7 + k ≤ 100000 := by omega
      clear hA hx x0 x1 x3 x4 hS0
      go_wp2_with fail
      have HLT := Lib.hid ((Later.refl wr).drew)
      go_region_with
        (first
          | (go_at_call 21; refine (Exact.of_any (fun q => q ≠ w.heap.size) t3 _ ?_ HCI.out).mono ?_; exact (HA.out.later HLT.out).new; rintro e w3 ⟨v3, rfl, hx3, hb3⟩; have HLT := Lib.hid (HLT.out.trans hb3); have HX3 := Lib.hid hx3; clear hx3 hb3; have b1 := HLT.out.cell a1; have b2 := HLT.out.cell a2; have b3 := HLT.out.cell x2)
          | (go_at_call 20; refine (plus_any (fun q => q ≠ w.heap.size) _ _ S0 t3 (7 + k) _ ?_ ?_ ?_ hk7).mono ?_; exact (HA.out.later HLT.out).new; exact (HA.out.later HLT.out).ex; exact HX3.out.more (by omega); rintro e w6 ⟨v6, rfl, hx6, hb6⟩; obtain ⟨⟨s6, E6, l6, c6⟩, rfl⟩ := hx6.xv; have HLT := Lib.hid (HLT.out.trans hb6); have HX6 := Lib.hid hx6; clear hx6 hb6; have HA6 := Lib.hid (HA.out.later HLT.out); have b1 : w6.cell? ⟨w.heap.size, 0, none⟩ = some (.int .i64 sx) := HA6.out.bx.cell 0; have b2 : w6.cell? ⟨w.heap.size, 1, none⟩ = some (.slice Xe nx cx) := HA6.out.bx.cell 1; have b3 := HLT.out.cell x2; have d3 := HA6.out.bx.frozen 0; have d4 := HA6.out.bx.frozen 1; try dsimp only [XV.val]))
      all_goals
        have HA7 := Lib.hid (HA6.out.set ⟨s6, E6, l6, c6⟩ HX6.out)
        go_wp2_with fail
        go_roundw
        case rel => exact ⟨k + 1, ⟨s6, E6, l6, c6⟩, by go_num, by omega, by rw [HS.out]; exact HA7.out⟩
        case measure => simp only [intOf]; omega
    · obtain rfl : k = n := by omega
      have HFIT := Lib.hid (show fitN (chL ls k).sum = u ∧ fitE (chL ls k).sum = v from HUV.out)
      have hk9 : 7 + k ≤ 90000 := by omega
      clear hA
      go_wp2_with fail
      refine (fit_was _ _ (7 + k) _ (HA.out.ex.any (Nat.le_refl _)) hk9 (by omega) u v HFIT.out).mono ?_
      rintro e w6 ⟨rfl, b6⟩
      have HB6 := Lib.hid (HA.out.be.trans (b6.mono HA.out.be.size))
      clear b6
      go_wp2_with fail
      go_ret2
      exact ⟨rfl, HB6.out⟩
/-- When lines belong together. -/
theorem lkey_eq {its : List It} {ls : List Ln} {i k : Nat} : (lkey its i (lnAt ls i) = lkey its k (lnAt ls k)) ↔ (i = k ∨ ((itN its (lnAt ls i).item).tag = 1 ∧ (itN its (lnAt ls k).item).tag = 1 ∧ (itN its (lnAt ls i).item).group = (itN its (lnAt ls k).item).group) ∨ (¬ ((itN its (lnAt ls i).item).tag = 1 ∧ (itN its (lnAt ls k).item).tag = 1) ∧ (itN its (lnAt ls i).item).tag = 2 ∧ (lnAt ls i).item = (lnAt ls k).item)) := by
  by_cases h : i = k
  · subst h; simp
  · have hik : ¬ ((i : Int) = (k : Int)) := by omega
    unfold lkey
    by_cases a1 : (itN its (lnAt ls i).item).tag = 1
    · by_cases b1 : (itN its (lnAt ls k).item).tag = 1
      · simp [a1, b1, h]
      · by_cases b2 : (itN its (lnAt ls k).item).tag = 2
        · simp [a1, b2, h]
        · simp [a1, b1, b2, h]
    · by_cases a2 : (itN its (lnAt ls i).item).tag = 2
      · by_cases b1 : (itN its (lnAt ls k).item).tag = 1
        · have : (lnAt ls i).item ≠ (lnAt ls k).item := fun c => by rw [c] at a2; omega
          simp [a2, b1, h, this]
        · by_cases b2 : (itN its (lnAt ls k).item).tag = 2
          · simp [a2, b2, h]
          · have : (lnAt ls i).item ≠ (lnAt ls k).item := fun c => by rw [c] at a2; omega
            simp [a2, b1, b2, h, this]
      · by_cases b1 : (itN its (lnAt ls k).item).tag = 1
        · simp [a1, a2, b1, h]
        · by_cases b2 : (itN its (lnAt ls k).item).tag = 2
          · simp [a1, a2, b2, h]
          · simp [a1, a2, b1, b2, h, hik]
set_option maxHeartbeats 4000000 in
set_option maxRecDepth 100000 in
theorem together_any {S : Nat → Prop} {b : Nat} {its : List It} {L : List Pz} {w : World} (h : RbW S b its L w) (A : Option Addr) (ls : List Ln) (c : Nat) (hr : Row w 0 A (lcells ls)) (hl : ls.length ≤ 1000) (hit : its.length ≤ 1000) (i k : Nat) (hi : i < ls.length) (hk : k < ls.length) (hin : inI its.length (lnAt ls i).item = true) (hkn : inI its.length (lnAt ls k).item = true) (r : Bool) (hrr : decide (lkey its i (lnAt ls i) = lkey its k (lnAt ls k)) = r) :
    Calls Try.prog 28 #[.pointer (some ⟨b, 0, none⟩), .slice A ls.length c, .int .i64 (i : Int), .int .i64 (k : Int)] w fun e w' => e = .returned (.bool r) ∧ Below w.heap.size w w' := by
  rw [show decide (lkey its i (lnAt ls i) = lkey its k (lnAt ls k)) = decide _ from decide_eq_decide.2 lkey_eq] at hrr
  by_cases hik : i = k
  · subst hik
    obtain rfl : r = true := by rw [← hrr]; simp
    clear hrr hr h hin hkn
    go_enter Try.func28, Try.ntmps28
    go_wp2_with fail
    go_ret
    exact ⟨rfl, Below.refl _ _⟩
  have hik1 : ((i : Int) == (k : Int)) = false := by simpa using (show ¬ (i : Int) = (k : Int) by omega)
  have hik2 : ¬ (i : Int) = (k : Int) := by omega
  obtain ⟨I, cI, A2, c2, hb⟩ := h
  obtain ⟨ad, rfl, x0, _, _, _, _⟩ := l_cells hr hi
  obtain ⟨ad2, had, y0, _, _, _, _⟩ := l_cells hr hk
  cases had
  unfold itN at hrr
  rw [if_pos hin, if_pos hkn] at hrr
  obtain ⟨x, hx⟩ : ∃ x, lnAt ls i = x := ⟨_, rfl⟩
  obtain ⟨y, hy⟩ : ∃ y, lnAt ls k = y := ⟨_, rfl⟩
  rw [hx] at x0 hin hrr
  rw [hy] at y0 hkn hrr
  obtain ⟨t1, _, _, _, _⟩ := x
  obtain ⟨u1, _, _, _, _⟩ := y
  dsimp only at x0 y0 hin hkn hrr
  simp only [inI, Bool.and_eq_true, decide_eq_true_eq] at hin hkn
  obtain ⟨p, rfl⟩ : ∃ p : Nat, t1 = (p : Int) := ⟨t1.toNat, by omega⟩
  obtain ⟨q, rfl⟩ : ∃ q : Nat, u1 = (q : Int) := ⟨u1.toNat, by omega⟩
  rw [Int.toNat_natCast, Int.toNat_natCast] at hrr
  have hp : p < its.length := by omega
  have hq : q < its.length := by omega
  obtain ⟨bd, rfl, i0, i1, i2, i3⟩ := i_cells hb.items.row hp
  obtain ⟨bd2, hbd, j0, j1, j2, j3⟩ := i_cells hb.items.row hq
  cases hbd
  have b0 := hb.c0
  generalize itAt its p = P at *
  generalize itAt its q = Q at *
  obtain ⟨pt, pg, pm, pp⟩ := P
  obtain ⟨qt, qg, qm, qp⟩ := Q
  dsimp only at i0 i1 i2 i3 j0 j1 j2 j3 hrr
  have hI0 : (0 : Int) ≤ (i : Int) := Int.natCast_nonneg _
  have hK0 : (0 : Int) ≤ (k : Int) := Int.natCast_nonneg _
  have hP0 : (0 : Int) ≤ (p : Int) := Int.natCast_nonneg _
  have hQ0 : (0 : Int) ≤ (q : Int) := Int.natCast_nonneg _
  generalize ls.length = n at *
  generalize its.length = m at *
  have hI1 : (i : Int) < (n : Int) := by omega
  have hK1 : (k : Int) < (n : Int) := by omega
  have hP1 : (p : Int) < (m : Int) := by omega
  have hQ1 : (q : Int) < (m : Int) := by omega
  have HRR := Lib.hid hrr
  have HIK := Lib.hid hik
  clear hr hb hx hy hrr hin hkn hik
  go_enter Try.func28, Try.ntmps28
  go_wp2_with fail
  have z0 := World.new_ne w _ b0
  have z1 := World.new_ne w _ x0
  have z2 := World.new_ne w _ i0
  have z3 := World.new_ne w _ i1
  have z4 := World.new_ne w _ i2
  have z5 := World.new_ne w _ i3
  go_region_held3 (fun W => W.cell? ⟨b, 0, none⟩ = some (.slice (some bd) m cI) ∧ W.cell? (ad.add (i * 5)) = some (.int .i64 (p : Int)) ∧ W.cell? (bd.add (p * 4)) = some (.int .i64 pt) ∧ W.cell? ⟨(bd.add (p * 4)).block, (bd.add (p * 4)).off + 1, none⟩ = some (.int .i64 pg) ∧ W.cell? ⟨(bd.add (p * 4)).block, (bd.add (p * 4)).off + 2, none⟩ = some (.int .i64 pm) ∧ W.cell? ⟨(bd.add (p * 4)).block, (bd.add (p * 4)).off + 3, none⟩ = some (.int .i64 pp))
    (first | exact ⟨b0, x0, i0, i1, i2, i3⟩ | (go_keep; done))
    (fail)
  obtain ⟨w2, hw2⟩ : ∃ w2, (w.alloc (.cells #[.int .i64 pt, .int .i64 pg, .int .i64 pm, .int .i64 pp] 50)).drew = w2 := ⟨_, rfl⟩
  have hbe := Below.drew (alloc1 w (.cells #[.int .i64 pt, .int .i64 pg, .int .i64 pm, .int .i64 pp] 50))
  have hX := (Blk.new w 50 #[.int .i64 pt, .int .i64 pg, .int .i64 pm, .int .i64 pp]).drew
  rw [hw2] at hbe hX ⊢
  have b0' := cell_below' hbe b0
  have y0' := cell_below' hbe y0
  have x0' := cell_below' hbe x0
  have j0' := cell_below' hbe j0
  have j1' := cell_below' hbe j1
  have j2' := cell_below' hbe j2
  have j3' := cell_below' hbe j3
  clear z0 z1 z2 z3 z4 z5 b0 x0 y0 i0 i1 i2 i3 j0 j1 j2 j3 hw2
  have HBE := Lib.hid hbe
  have HX := Lib.hid hX
  clear hbe hX
  go_wp2_with fail
  have z0 := World.new_ne w2 _ b0'
  have z1 := World.new_ne w2 _ y0'
  have z2 := World.new_ne w2 _ j0'
  have z3 := World.new_ne w2 _ j1'
  have z4 := World.new_ne w2 _ j2'
  have z5 := World.new_ne w2 _ j3'
  go_region_held3 (fun W => W.cell? ⟨b, 0, none⟩ = some (.slice (some bd) m cI) ∧ W.cell? (ad.add (k * 5)) = some (.int .i64 (q : Int)) ∧ W.cell? (bd.add (q * 4)) = some (.int .i64 qt) ∧ W.cell? ⟨(bd.add (q * 4)).block, (bd.add (q * 4)).off + 1, none⟩ = some (.int .i64 qg) ∧ W.cell? ⟨(bd.add (q * 4)).block, (bd.add (q * 4)).off + 2, none⟩ = some (.int .i64 qm) ∧ W.cell? ⟨(bd.add (q * 4)).block, (bd.add (q * 4)).off + 3, none⟩ = some (.int .i64 qp))
    (first | exact ⟨b0', y0', j0', j1', j2', j3'⟩ | (go_keep; done))
    (fail)
  obtain ⟨w3, hw3⟩ : ∃ w3, (w2.alloc (.cells #[.int .i64 qt, .int .i64 qg, .int .i64 qm, .int .i64 qp] 50)).drew = w3 := ⟨_, rfl⟩
  have hbe := Below.drew (alloc1 w2 (.cells #[.int .i64 qt, .int .i64 qg, .int .i64 qm, .int .i64 qp] 50))
  have hY := (Blk.new w2 50 #[.int .i64 qt, .int .i64 qg, .int .i64 qm, .int .i64 qp]).drew
  rw [hw3] at hbe hY ⊢
  have x0 := cell_below' hbe x0'
  have y0 := cell_below' hbe y0'
  have hX := HX.out.below hbe HX.out.lt
  have a0 : w3.cell? ⟨w.heap.size, 0, none⟩ = some (.int .i64 pt) := hX.cell 0
  have a1 : w3.cell? ⟨w.heap.size, 1, none⟩ = some (.int .i64 pg) := hX.cell 1
  have c0 : w3.cell? ⟨w2.heap.size, 0, none⟩ = some (.int .i64 qt) := hY.cell 0
  have c1 : w3.cell? ⟨w2.heap.size, 1, none⟩ = some (.int .i64 qg) := hY.cell 1
  have HB3 := Lib.hid (HBE.out.trans (hbe.mono HBE.out.size))
  clear z0 z1 z2 z3 z4 z5 hX hY hbe hw3 b0' x0' y0' j0' j1' j2' j3'
  by_cases e1 : pt = 1
  · subst e1
    by_cases e2 : qt = 1
    · subst e2
      have hr : (pg == qg) = r := by rw [← HRR.out, Bool.beq_eq_decide_eq]; simp [HIK.out]
      go_wp2_with fail
      go_ret
      exact ⟨rfl, HB3.out⟩
    · have e2b : (qt == 1) = false := by simpa using e2
      have hr : r = false := by rw [← HRR.out]; simp [HIK.out, e2]
      subst hr
      go_wp2_with fail
      go_quiet (fail)
      go_wp2_with fail
      go_ret
      exact ⟨rfl, Later.drewN HB3.out _⟩
  · have e1b : (pt == 1) = false := by simpa using e1
    by_cases e2 : pt = 2
    · subst e2
      have hr : ((p : Int) == (q : Int)) = r := by rw [← HRR.out, Bool.beq_eq_decide_eq]; simp [HIK.out]
      go_wp2_with fail
      go_quiet (fail)
      go_wp2_with fail
      go_ret
      exact ⟨rfl, Later.drewN HB3.out _⟩
    · have e2b : (pt == 2) = false := by simpa using e2
      have hr : r = false := by rw [← HRR.out]; simp [HIK.out, e2, e1]
      subst hr
      go_wp2_with fail
      go_quiet (fail)
      go_wp2_with fail
      go_ret
      exact ⟨rfl, Later.drewN HB3.out _⟩
section
open Go.RowKit Go.Proofs.Ytbdhbongaikphaa.Cents Go.Proofs.Ytbdhbongaikphaa.DU Go.Proofs.Ytbdhbongaikphaa.Exact
set_option linter.unusedVariables false
set_option linter.unusedSimpArgs false

theorem own_emptyD (w : World) (e size : Nat) (base : Nat) (h : base ≤ w.heap.size) : (w.alloc (.cells #[] e)).ownsRow base e size (.slice (some ⟨w.heap.size, 0, none⟩) 0 0) 0 [] := by
  refine ⟨by simp, .inr ⟨w.heap.size, 0, #[], rfl, h, heap_alloc_new _ _, by omega, by unfold maxLen; omega, by simp, by simp⟩⟩
/-- A new one at the end, with its lines. -/
theorem DusW.add {b : Nat} {v : Value} {xs : List DV} {w w1 : World} {B : Option Addr} {c : Nat} {y : Du} {vl : Value} (h : DusW b v xs w) (hl : w.ownsRow b 3 1 vl y.ls.length (ints (nats y.ls))) (hap : ∀ x ∈ xs, x.v.ownBlock = none ∨ x.v.ownBlock ≠ vl.ownBlock) (hg : w.grownBy w1 v.ownBlock)
    (ho : w1.ownsRow b 43 6 (.slice B (xs.length + 1) c) (xs.length + 1) (xs.flatMap dvc ++ dvc ⟨y, vl⟩)) :
    DusW b (.slice B (xs.length + 1) c) (xs ++ [⟨y, vl⟩]) w1 := by
  refine ⟨by rw [List.length_append, List.flatMap_append]; simpa using ho, fun z hz => ?_, fun i j hi hj hij => ?_⟩
  · rcases List.mem_append.1 hz with c2 | c2
    · have hz3 := h.lns z c2
      exact hz3.kept hg (own_ty hz3 h.own (by decide))
    · rw [List.mem_singleton.1 c2]
      exact hl.kept hg (own_ty hl h.own (by decide))
  · by_cases hi2 : i < xs.length
    · by_cases hj2 : j < xs.length
      · rw [List.getElem_append_left hi2, List.getElem_append_left hj2]
        exact h.apart i j hi2 hj2 hij
      · have : j = xs.length := by simp at hj; omega
        subst this
        rw [List.getElem_append_left hi2, List.getElem_append_right (Nat.le_refl _)]
        simp only [Nat.sub_self, List.getElem_cons_zero]
        exact hap _ (List.getElem_mem hi2)
    · have : i = xs.length := by simp at hi; omega
      subst this
      have hj2 : j < xs.length := by simp at hj; omega
      rw [List.getElem_append_right (Nat.le_refl _), List.getElem_append_left hj2]
      simp only [Nat.sub_self, List.getElem_cons_zero]
      rcases hap _ (List.getElem_mem hj2) with c2 | c2
      · cases hq : vl.ownBlock with
        | none => exact .inl rfl
        | some q => exact .inr (by rw [c2]; simp)
      · exact .inr (fun e => c2 e.symm)
/-- The blocks that digits may lie in. -/
def Fq (Q : Nat) (vl : Value) (q : Nat) : Prop := q ≠ Q ∧ q ≠ Q + 1 ∧ q ≠ Q + 1 + 1 ∧ vl.ownBlock ≠ some q
/-- An obligation in the making: its box, its lines, both sums. -/
structure GrpW (w1 : World) (ls : List Nat) (me fi la sa su : Int) (ka ku : Nat) (vl : Value) (X Y : XV) (w : World) : Prop where
  bx : Blk w w1.heap.size 43 #[vl, .int .i64 0, .int .i64 0, .int .i64 me, .int .i64 fi, .int .i64 la]
  ln : w.ownsRow w1.heap.size 3 1 vl ls.length (ints (nats ls))
  ab : Blk w (w1.heap.size + 1) 64 #[.int .i64 X.s, .slice X.E X.l X.c]
  ae : Ex w (Fq w1.heap.size vl) X.val sa ka
  ub : Blk w (w1.heap.size + 1 + 1) 64 #[.int .i64 Y.s, .slice Y.E Y.l Y.c]
  ue : Ex w (Fq w1.heap.size vl) Y.val su ku
  be : Below w1.heap.size w1 w
section
variable {w1 w w' : World} {ls : List Nat} {me fi la sa su : Int} {ka ku : Nat} {vl : Value} {X Y : XV}
theorem GrpW.later (h : GrpW w1 ls me fi la sa su ka ku vl X Y w) (hb : Below w.heap.size w w') : GrpW w1 ls me fi la sa su ka ku vl X Y w' :=
  ⟨h.bx.below hb h.bx.lt, own_blw h.ln hb, h.ab.below hb h.ab.lt, h.ae.below hb, h.ub.below hb h.ub.lt, h.ue.below hb, h.be.trans (hb.mono h.be.size)⟩
theorem GrpW.new (h : GrpW w1 ls me fi la sa su ka ku vl X Y w) : New w (Fq w1.heap.size vl) := fun q hq => by
  have := h.ub.lt
  exact ⟨by omega, by omega, by omega, fun e => by have := (h.ln.lt q e).2; omega⟩
theorem GrpW.start (w1 w : World) (me fi la : Int) (k : Nat) (hb : Below w1.heap.size w1 w) (hq : w.heap.size = w1.heap.size) :
    GrpW w1 [] me fi la 0 0 k k (.slice none 0 0) ⟨0, none, 0, 0⟩ ⟨0, none, 0, 0⟩ (((w.alloc (.cells #[.slice none 0 0, .int .i64 0, .int .i64 0, .int .i64 me, .int .i64 fi, .int .i64 la] 43)).alloc (.cells #[.int .i64 0, .slice none 0 0] 64)).alloc (.cells #[.int .i64 0, .slice none 0 0] 64)) := by
  have b0 := Blk.new w 43 #[.slice none 0 0, .int .i64 0, .int .i64 0, .int .i64 me, .int .i64 fi, .int .i64 la]
  have b1 : Blk ((w.alloc (.cells #[.slice none 0 0, .int .i64 0, .int .i64 0, .int .i64 me, .int .i64 fi, .int .i64 la] 43)).alloc (.cells #[.int .i64 0, .slice none 0 0] 64)) (w.heap.size + 1) 64 #[.int .i64 0, .slice none 0 0] := by
    have := Blk.new (w.alloc (.cells #[.slice none 0 0, .int .i64 0, .int .i64 0, .int .i64 me, .int .i64 fi, .int .i64 la] 43)) 64 #[.int .i64 0, .slice none 0 0]
    simpa using this
  have b2 : Blk (((w.alloc (.cells #[.slice none 0 0, .int .i64 0, .int .i64 0, .int .i64 me, .int .i64 fi, .int .i64 la] 43)).alloc (.cells #[.int .i64 0, .slice none 0 0] 64)).alloc (.cells #[.int .i64 0, .slice none 0 0] 64)) (w.heap.size + 1 + 1) 64 #[.int .i64 0, .slice none 0 0] := by
    have := Blk.new ((w.alloc (.cells #[.slice none 0 0, .int .i64 0, .int .i64 0, .int .i64 me, .int .i64 fi, .int .i64 la] 43)).alloc (.cells #[.int .i64 0, .slice none 0 0] 64)) 64 #[.int .i64 0, .slice none 0 0]
    simpa using this
  rw [hq] at b0 b1 b2
  have z : ∀ (W : World) (F : Nat → Prop), Ex W F (XV.val ⟨0, none, 0, 0⟩) 0 k := fun W F => ⟨[], none, 0, rfl, Nat.le_refl _, Nat.zero_le _, RowF.none_, EM.Tells.zero⟩
  refine ⟨(b0.alloc _).alloc _, World.ownsRow_nil _ _ _ _, b1.alloc _, z _ _, b2, z _ _, ?_⟩
  exact ((hb.alloc hb.size _).alloc (hb.alloc hb.size _).size _).alloc ((hb.alloc hb.size _).alloc (hb.alloc hb.size _).size _).size _
theorem GrpW.lnset (h : GrpW w1 ls me fi la sa su ka ku vl X Y w) {q t j : Nat} {cs : Array Value} (hb : Blk w q t cs) (ht : t ≠ 3) (u : Value) : (w.setCell ⟨q, j, none⟩ u).ownsRow w1.heap.size 3 1 vl ls.length (ints (nats ls)) :=
  own_fr h.ln ((Fr.refl (fun z => z = q) w).setCell (fun _ => rfl) u) (fun k hk e => own_box h.ln hb ht (by rw [hk, e]))
theorem GrpW.setQ (h : GrpW w1 ls me fi la sa su ka ku vl X Y w) (j : Nat) (u : Value) (fi' la' : Int)
    (hc : #[vl, .int .i64 0, .int .i64 0, .int .i64 me, .int .i64 fi, .int .i64 la].setIfInBounds j u = #[vl, .int .i64 0, .int .i64 0, .int .i64 me, .int .i64 fi', .int .i64 la']) :
    GrpW w1 ls me fi' la' sa su ka ku vl X Y (w.setCell ⟨w1.heap.size, j, none⟩ u) :=
  ⟨by rw [← hc]; exact h.bx.set_ j u, h.lnset h.bx (by decide) u, h.ab.far (by first | (simp; done) | (simp; omega) | omega) u, h.ae.setCell (fun c => c.1 rfl) u, h.ub.far (by first | (simp; done) | (simp; omega) | omega) u, h.ue.setCell (fun c => c.1 rfl) u, h.be.setCell (Nat.le_refl _) u⟩
theorem GrpW.setA (h : GrpW w1 ls me fi la sa su ka ku vl X Y w) (v : XV) {s' : Int} {k' : Nat} (hx : Ex w (Fq w1.heap.size vl) v.val s' k') :
    GrpW w1 ls me fi la s' su k' ku vl v Y ((w.setCell ⟨w1.heap.size + 1, 0, none⟩ (.int .i64 v.s)).setCell ⟨w1.heap.size + 1, 1, none⟩ (.slice v.E v.l v.c)) := by
  have hab := h.ab.set_ 0 (.int .i64 v.s)
  have hl1 := h.lnset (j := 0) h.ab (by decide) (.int .i64 v.s)
  refine ⟨(h.bx.far (by first | (simp; done) | (simp; omega) | omega) _).far (by first | (simp; done) | (simp; omega) | omega) _, ?_, ?_, (hx.setCell (fun c => c.2.1 rfl) _).setCell (fun c => c.2.1 rfl) _, (h.ub.far (by first | (simp; done) | (simp; omega) | omega) _).far (by first | (simp; done) | (simp; omega) | omega) _, (h.ue.setCell (fun c => c.2.1 rfl) _).setCell (fun c => c.2.1 rfl) _, (h.be.setCell (by first | (simp; done) | (simp; omega) | omega) _).setCell (by first | (simp; done) | (simp; omega) | omega) _⟩
  · exact own_fr hl1 ((Fr.refl (fun z => z = w1.heap.size + 1) _).setCell (fun _ => rfl) _) (fun k hk e => own_box hl1 hab (by decide) (by rw [hk, e]))
  · have := hab.set_ 1 (.slice v.E v.l v.c)
    simpa using this
theorem GrpW.setU (h : GrpW w1 ls me fi la sa su ka ku vl X Y w) (v : XV) {s' : Int} {k' : Nat} (hx : Ex w (Fq w1.heap.size vl) v.val s' k') :
    GrpW w1 ls me fi la sa s' ka k' vl X v ((w.setCell ⟨w1.heap.size + 1 + 1, 0, none⟩ (.int .i64 v.s)).setCell ⟨w1.heap.size + 1 + 1, 1, none⟩ (.slice v.E v.l v.c)) := by
  have hab := h.ub.set_ 0 (.int .i64 v.s)
  have hl1 := h.lnset (j := 0) h.ub (by decide) (.int .i64 v.s)
  refine ⟨(h.bx.far (by first | (simp; done) | (simp; omega) | omega) _).far (by first | (simp; done) | (simp; omega) | omega) _, ?_, (h.ab.far (by first | (simp; done) | (simp; omega) | omega) _).far (by first | (simp; done) | (simp; omega) | omega) _, (h.ae.setCell (fun c => c.2.2.1 rfl) _).setCell (fun c => c.2.2.1 rfl) _, ?_, (hx.setCell (fun c => c.2.2.1 rfl) _).setCell (fun c => c.2.2.1 rfl) _, (h.be.setCell (by first | (simp; done) | (simp; omega) | omega) _).setCell (by first | (simp; done) | (simp; omega) | omega) _⟩
  · exact own_fr hl1 ((Fr.refl (fun z => z = w1.heap.size + 1 + 1) _).setCell (fun _ => rfl) _) (fun k hk e => own_box hl1 hab (by decide) (by rw [hk, e]))
  · have := hab.set_ 1 (.slice v.E v.l v.c)
    simpa using this
/-- A line more. -/
theorem GrpW.push (h : GrpW w1 ls me fi la sa su ka ku vl X Y w) {g cap k : Nat} (hg : w.grownBy w' vl.ownBlock) (ho : w'.ownsRow w1.heap.size 3 1 (.slice (some ⟨g, 0, none⟩) (ls.length + 1) cap) (ls.length + 1) (ints (nats ls) ++ [.int .i64 (k : Int)])) (hat : vl.ownBlock = some g ∨ g = w.heap.size) :
    GrpW w1 (ls ++ [k]) me fi la sa su ka ku (.slice (some ⟨g, 0, none⟩) (ls.length + 1) cap) X Y (w'.setCell ⟨w1.heap.size, 0, none⟩ (.slice (some ⟨g, 0, none⟩) (ls.length + 1) cap)) := by
  have hbx := h.bx.grown hg (own_box h.ln h.bx (by decide))
  have hg1 : g ≠ w1.heap.size := fun e => by
    rcases hat with c | c
    · exact own_box h.ln h.bx (by decide) (by rw [c, e])
    · have := h.bx.lt; omega
  have hF : ∀ q, Fq w1.heap.size vl q → q < w.heap.size → Fq w1.heap.size (.slice (some ⟨g, 0, none⟩) (ls.length + 1) cap) q := fun q hq hl => ⟨hq.1, hq.2.1, hq.2.2.1, fun e => by
    injection e with e
    rcases hat with c | c
    · exact hq.2.2.2 (by rw [c, ← e])
    · have e2 : g = q := e
      omega⟩
  have hae := ((h.ae.weak (G := fun q => Fq w1.heap.size vl q ∧ q < w.heap.size) (fun q hq hl => ⟨hq, hl⟩)).grown hg (fun q hq e => hq.1.2.2.2 e)).weak (G := Fq w1.heap.size (.slice (some ⟨g, 0, none⟩) (ls.length + 1) cap)) (fun q hq _ => hF q hq.1 hq.2)
  have hue := ((h.ue.weak (G := fun q => Fq w1.heap.size vl q ∧ q < w.heap.size) (fun q hq hl => ⟨hq, hl⟩)).grown hg (fun q hq e => hq.1.2.2.2 e)).weak (G := Fq w1.heap.size (.slice (some ⟨g, 0, none⟩) (ls.length + 1) cap)) (fun q hq _ => hF q hq.1 hq.2)
  have hl1 : w'.ownsRow w1.heap.size 3 1 (.slice (some ⟨g, 0, none⟩) (ls ++ [k]).length cap) (ls ++ [k]).length (ints (nats (ls ++ [k]))) := by
    rw [List.length_append, nats_snoc, ints_snocD]
    exact ho
  have hl2 : (w'.setCell ⟨w1.heap.size, 0, none⟩ (.slice (some ⟨g, 0, none⟩) (ls.length + 1) cap)).ownsRow w1.heap.size 3 1 (.slice (some ⟨g, 0, none⟩) (ls ++ [k]).length cap) (ls ++ [k]).length (ints (nats (ls ++ [k]))) :=
    own_fr hl1 ((Fr.refl (fun z => z = w1.heap.size) _).setCell (fun _ => rfl) _) (fun q hq e => own_box hl1 hbx (by decide) (by rw [hq, e]))
  refine ⟨?_, by rw [List.length_append] at hl2 ⊢; exact hl2, (h.ab.grown hg (own_box h.ln h.ab (by decide))).far (by first | (simp; done) | (simp; omega) | omega) _, hae.setCell (fun c => c.1 rfl) _, (h.ub.grown hg (own_box h.ln h.ub (by decide))).far (by first | (simp; done) | (simp; omega) | omega) _, hue.setCell (fun c => c.1 rfl) _, (h.be.grown hg h.be.size (fun q hq => (h.ln.lt q hq).1)).setCell (Nat.le_refl _) _⟩
  have := hbx.set_ 0 (.slice (some ⟨g, 0, none⟩) (ls.length + 1) cap)
  simpa using this
theorem GrpW.pushN {P : Option Addr} {n c g cap k : Nat} (h : GrpW w1 ls me fi la sa su ka ku (.slice P n c) X Y w) (hn : ls.length = n) (hg : (w.alloc (.cells #[.int .i64 (k : Int)] 3)).grownBy w' (Value.slice P n c).ownBlock)
    (ho : w'.ownsRow w1.heap.size 3 1 (.slice (some ⟨g, 0, none⟩) (n + 1) cap) (n + 1) (ints (nats ls) ++ [.int .i64 (k : Int)])) (hat : (Value.slice P n c).ownBlock = some g ∨ g = (w.alloc (.cells #[.int .i64 (k : Int)] 3)).heap.size) :
    GrpW w1 (ls ++ [k]) me fi la sa su ka ku (.slice (some ⟨g, 0, none⟩) (n + 1) cap) X Y (w'.setCell ⟨w1.heap.size, 0, none⟩ (.slice (some ⟨g, 0, none⟩) (n + 1) cap)) ∧ w'.frozen? ⟨w1.heap.size, 0, none⟩ = false ∧ w'.cell? ⟨w1.heap.size, 0, none⟩ = some (.slice P n c) := by
  subst hn
  have h2 := h.later (alloc1 w (.cells #[.int .i64 (k : Int)] 3))
  exact ⟨h2.push hg ho hat, (h2.bx.grown hg (own_box h2.ln h2.bx (by decide))).frozen 0, (h2.bx.grown hg (own_box h2.ln h2.bx (by decide))).cell 0⟩
theorem GrpW.fin (h : GrpW w1 ls me fi la sa su ka ku vl X Y w) (a u : Int) :
    Blk ((w.setCell ⟨w1.heap.size, 1, none⟩ (.int .i64 a)).setCell ⟨w1.heap.size, 2, none⟩ (.int .i64 u)) w1.heap.size 43 #[vl, .int .i64 a, .int .i64 u, .int .i64 me, .int .i64 fi, .int .i64 la]
    ∧ ((w.setCell ⟨w1.heap.size, 1, none⟩ (.int .i64 a)).setCell ⟨w1.heap.size, 2, none⟩ (.int .i64 u)).ownsRow w1.heap.size 3 1 vl ls.length (ints (nats ls))
    ∧ Below w1.heap.size w1 ((w.setCell ⟨w1.heap.size, 1, none⟩ (.int .i64 a)).setCell ⟨w1.heap.size, 2, none⟩ (.int .i64 u)) := by
  have hb1 := h.bx.set_ 1 (.int .i64 a)
  have hl1 := h.lnset (j := 1) h.bx (by decide) (.int .i64 a)
  refine ⟨?_, ?_, (h.be.setCell (Nat.le_refl _) _).setCell (Nat.le_refl _) _⟩
  · have := hb1.set_ 2 (.int .i64 u)
    simpa using this
  · exact own_fr hl1 ((Fr.refl (fun z => z = w1.heap.size) _).setCell (fun _ => rfl) _) (fun k hk e => own_box hl1 hb1 (by decide) (by rw [hk, e]))
theorem own_weak {base base' e size n : Nat} {u : Value} {ys : List Value} {W : World} (h : W.ownsRow base e size u n ys) (hb : base' ≤ base) : W.ownsRow base' e size u n ys :=
  ⟨h.1, h.2.imp id fun ⟨g, cap, cur, e1, hg, r⟩ => ⟨g, cap, cur, e1, Nat.le_trans hb hg, r⟩⟩
/-- The obligation is done: it goes onto the row. -/
theorem DusW.out {base c' : Nat} {v : Value} {xs : List DV} {wa W w9 : World} {B : Option Addr} {y : Du} {cs : Array Value} (hD : DusW base v xs wa) (h12 : Below wa.heap.size wa w1) (hbase : base ≤ wa.heap.size) (hl : W.ownsRow w1.heap.size 3 1 vl y.ls.length (ints (nats y.ls))) (be : Below w1.heap.size w1 W)
    (hg : (W.alloc (.cells cs 43)).grownBy w9 v.ownBlock) (ho : w9.ownsRow base 43 6 (.slice B (xs.length + 1) c') (xs.length + 1) (xs.flatMap dvc ++ dvc ⟨y, vl⟩)) :
    DusW base (.slice B (xs.length + 1) c') (xs ++ [⟨y, vl⟩]) w9 ∧ Below base wa w9 := by
  have hbW := h12.trans (be.mono h12.size)
  have hbA := hbW.alloc hbW.size (.cells cs 43)
  have hD2 := hD.later hbA
  refine ⟨hD2.add ((own_weak hl (Nat.le_trans hbase h12.size)).alloc _) (fun x hx => ?_) hg ho, (hbA.mono hbase).grown hg (Nat.le_trans hbase hbA.size) (fun q hq => (hD.own.lt q hq).1)⟩
  have hx3 := hD.lns x hx
  cases hq : x.v.ownBlock with
  | none => exact .inl rfl
  | some q =>
    refine .inr fun e => ?_
    have h1 := (hx3.lt q hq).2
    have h2 := (hl.lt q e.symm).1
    have := h12.size
    omega
end
end
section
open Go.RowKit Go.Proofs.Ytbdhbongaikphaa.Cents Go.Proofs.Ytbdhbongaikphaa.DU Go.Proofs.Ytbdhbongaikphaa.Exact
set_option linter.unusedVariables false
set_option linter.unusedSimpArgs false

theorem GrpW.more {w1 w : World} {ls : List Nat} {me fi la sa su : Int} {ka ku ka' ku' : Nat} {vl : Value} {X Y : XV} (h : GrpW w1 ls me fi la sa su ka ku vl X Y w) (h1 : ka ≤ ka') (h2 : ku ≤ ku') : GrpW w1 ls me fi la sa su ka' ku' vl X Y w :=
  ⟨h.bx, h.ln, h.ab, h.ae.more h1, h.ub, h.ue.more h2, h.be⟩
def fstB (f : Nat → LnD) (i k : Nat) : Bool := (List.range k).all (fun k' => decide ((f k').key ≠ (f i).key))
theorem fstB_succ (f : Nat → LnD) (i k : Nat) : fstB f i (k + 1) = (fstB f i k && decide ((f k).key ≠ (f i).key)) := by
  unfold fstB
  rw [List.range_succ, List.all_append]
  simp
theorem fstB_all (f : Nat → LnD) (i : Nat) : fstB f i i = isFirst f i := rfl
/-- All is well of the obligations that begin ahead of a line. -/
def okF (f : Nat → LnD) (n i : Nat) : Prop := ∀ t ∈ firsts f i, okD (duAt f n t) ∧ ∀ k, k < n → (f k).key = (f t).key → (f k).e = 0
def okG (f : Nat → LnD) (i k : Nat) : Prop := ∀ k', k' < k → (f k').key = (f i).key → (f k').e = 0
theorem duAt_start {f : Nat → LnD} {i : Nat} (h : isFirst f i = true) : duAt f i i = du0 (f i) := by
  have hg : grp f i i = [] := by
    unfold grp
    rw [List.filter_eq_nil_iff]
    intro k hk
    simp only [decide_eq_true_eq]
    exact isFirst_iff.1 h k (List.mem_range.1 hk)
  unfold duAt
  rw [hg]
  rfl
theorem okF_zero (f : Nat → LnD) (n : Nat) : okF f n 0 := fun t ht => by cases ht
theorem okF_skip {f : Nat → LnD} {n i : Nat} (h : okF f n i) (hf : isFirst f i = false) : okF f n (i + 1) ∧ firsts f (i + 1) = firsts f i := by
  have e : firsts f (i + 1) = firsts f i := by rw [firsts_succ, hf]; simp
  exact ⟨by unfold okF; rw [e]; exact h, e⟩
theorem okF_more {f : Nat → LnD} {n i : Nat} (h : okF f n i) (hf : isFirst f i = true) (hg : okG f i n) (hd : okD (duAt f n i)) : okF f n (i + 1) ∧ firsts f (i + 1) = firsts f i ++ [i] := by
  have e : firsts f (i + 1) = firsts f i ++ [i] := by rw [firsts_succ, hf]; simp
  refine ⟨?_, e⟩
  unfold okF
  rw [e]
  intro t ht
  rcases List.mem_append.1 ht with c | c
  · exact h t c
  · rw [List.mem_singleton.1 c]
    exact ⟨hd, fun k hk hkk => hg k hk hkk⟩
theorem okF_all {f : Nat → LnD} {n : Nat} (h : okF f n n) : okAll f n := by
  refine ⟨fun i hi => ?_, fun d hd => ?_⟩
  · obtain ⟨t, ht, hf, hk⟩ := exists_first f i
    exact (h t (mem_firsts.2 ⟨by omega, hf⟩)).2 i hi hk.symm
  · obtain ⟨i, hi, hf, rfl⟩ := dus_mem hd
    exact (h i (mem_firsts.2 ⟨hi, hf⟩)).1
theorem no_e {f : Nat → LnD} {n k : Nat} (hk : k < n) (h : (f k).e ≠ 0) : ¬ okAll f n := fun c => h (c.1 k hk)
theorem no_d {f : Nat → LnD} {n i : Nat} (hi : i < n) (hf : isFirst f i = true) (h : ¬ okD (duAt f n i)) : ¬ okAll f n := fun c => h (c.2 _ (List.mem_map.2 ⟨i, mem_firsts.2 ⟨hi, hf⟩, rfl⟩))
set_option maxHeartbeats 1000000 in
set_option maxRecDepth 100000 in
theorem rfind_no (S : Nat → Prop) (its : List It) (R : List PRow) (A : Option Addr) (ls : List Ln) (c b : Nat) (day : Int) (w : World) (h : RbW S b its [] w) (hr : Row w 0 A (lcells ls)) (hl : ls.length ≤ 1000000) (hno : day < 0 ∨ checkE its.length ls ≠ 0) :
    Calls Try.prog 12 #[.pointer (some ⟨b, 0, none⟩), .slice A ls.length c, .int .i64 day] w (FRet its R day ls w) := by
  by_cases hd : day < 0
  · have HB := Lib.hid (fret_bad w (Below.refl _ w) (show findE its R day ls = 1 by unfold findE; rw [if_pos hd]) (by decide))
    generalize ls.length = n at *
    clear h hr hno
    go_enter Try.func12, Try.ntmps12
    go_wp2_with fail
    go_ret2
    exact HB.out
  · have hc : checkE its.length ls ≠ 0 := hno.resolve_left hd
    have HCK := Lib.hid (rcheck_any h A ls c hr hl _ rfl)
    have HB := Lib.hid (fun W (hb : Below w.heap.size w W) => fret_bad W hb (show findE its R day ls = checkE its.length ls by unfold findE; rw [if_neg hd, if_neg hc]) hc)
    obtain ⟨E, hE⟩ : ∃ E, checkE its.length ls = E := ⟨_, rfl⟩
    rw [hE] at HCK HB hc
    generalize ls.length = n at *
    have hc2 : (E != 0) = true := by simpa using hc
    have hc3 : (E == 0) = false := by simpa using hc
    clear h hr hno hE
    go_enter Try.func12, Try.ntmps12
    go_wp2_with fail
    refine HCK.out.mono ?_
    rintro e w1 ⟨rfl, hb⟩
    have HB2 := Lib.hid (HB.out _ hb)
    clear hb
    go_wp2_with fail
    go_ret2
    exact HB2.out
set_option maxHeartbeats 8000000 in
set_option maxRecDepth 100000 in
theorem rfind_go (S : Nat → Prop) (its : List It) (A : Option Addr) (ls : List Ln) (c b : Nat) (day : Int) (w : World) (h : RbW S b its [] w) (hk : BkOk its (rows0 its)) (hr : Row w 0 A (lcells ls)) (hd : ¬ day < 0) (hc : checkE its.length ls = 0) (hu : ∀ i, i < ls.length → I64 (lnAt ls i).units)
    (he : ∀ i, i < ls.length → (fL its (rows0 its) day ls i).e = 0 ∨ (fL its (rows0 its) day ls i).e = 3) (ha : ∀ i, i < ls.length → I64 (fL its (rows0 its) day ls i).alone) :
    Calls Try.prog 12 #[.pointer (some ⟨b, 0, none⟩), .slice A ls.length c, .int .i64 day] w (FRet its (rows0 its) day ls w) := by
  have hca := check_all hc
  have h1000 : ls.length ≤ 1000 := by omega
  have hil : its.length ≤ 1000 := by have := hk.len; omega
  have HCK := Lib.hid (rcheck_any h A ls c hr (by omega) 0 hc)
  have HTG := Lib.hid (fun (W : World) (hb : Below w.heap.size w W) (i k : Nat) (hi : i < ls.length) (hk : k < ls.length) (r : Bool) (hrr : decide (lkey its i (lnAt ls i) = lkey its k (lnAt ls k)) = r) => together_any (h.later hb) A ls c (hr.below hb) h1000 hil i k hi hk (may_facts (hca.2.2 i hi)).1 (may_facts (hca.2.2 k hk)).1 r hrr)
  have HAL := Lib.hid (fun (W : World) (hb : Below w.heap.size w W) (k : Nat) (hk2 : k < ls.length) (p q : Int) hpq => ralone_any (h.later hb) (match_new its) hk (by simp) (lnAt ls k) (hu k hk2) day p q hpq)
  have HIN := Lib.hid (fun k (hk : k < ls.length) => (may_facts (hca.2.2 k hk)).1)
  have HBAD := Lib.hid (fun (hno : ¬ okAll (fL its (rows0 its) day ls) ls.length) (W : World) (hb : Below w.heap.size w W) => fret_bad W hb (find_over hd hc hno) (by decide))
  have HGOOD := Lib.hid (fun (hok : okAll (fL its (rows0 its) day ls) ls.length) (v : Value) (xs : List DV) (W : World) (hD : DusW w.heap.size v xs W) (hx : xs.map (·.d) = dus (fL its (rows0 its) day ls) ls.length) (hb : Below w.heap.size w W) => (show FRet its (rows0 its) day ls w (.returned (.tuple #[v, .int .i64 0])) W from ⟨v, xs, by rw [(find_yes hd hc hok).1], hD, by rw [(find_yes hd hc hok).2]; exact hx, hb⟩))
  have HFK := Lib.hid (fun k => (show (fL its (rows0 its) day ls k).key = lkey its k (lnAt ls k) ∧ (fL its (rows0 its) day ls k).alone = aloneN its (rows0 its) (lnAt ls k) day ∧ (fL its (rows0 its) day ls k).units = (lnAt ls k).units ∧ (fL its (rows0 its) day ls k).method = (itN its (lnAt ls k).item).method ∧ (fL its (rows0 its) day ls k).first = (lnAt ls k).first ∧ (fL its (rows0 its) day ls k).last = (lnAt ls k).last ∧ (fL its (rows0 its) day ls k).e = aloneE its (rows0 its) (lnAt ls k) day from ⟨rfl, rfl, rfl, rfl, rfl, rfl, rfl⟩))
  have HH := Lib.hid h
  have HR := Lib.hid hr
  have HU := Lib.hid hu
  have HE := Lib.hid he
  have HA := Lib.hid ha
  generalize fL its (rows0 its) day ls = f at *
  obtain ⟨n, hn⟩ : ∃ n, ls.length = n := ⟨_, rfl⟩
  have HN := Lib.hid hn
  rw [hn] at h1000 HCK HTG HAL HIN HBAD HGOOD HU HE HA ⊢
  have hd2 : decide (day < 0) = false := by simpa using hd
  clear h hr hca hc hu he ha hn hk
  go_enter Try.func12, Try.ntmps12
  go_wp2_with fail
  refine HCK.out.mono ?_
  rintro e w0 ⟨rfl, hb0⟩
  have HB0 := Lib.hid hb0
  have HO0 := Lib.hid (own_emptyD w0 43 6 w.heap.size hb0.size)
  have HBZ := Lib.hid (hb0.alloc hb0.size (.cells #[] 43))
  clear hb0
  go_wp2_with fail
  go_loopw [9, 10] (fun vo vi wr => ∃ (i t : Nat) (P : Option Addr) (cP : Nat) (xs : List DV), vo = .slice P t cP ∧ xs.length = t ∧ vi = .int .i64 (i : Int) ∧ i ≤ n ∧ DusW w.heap.size (.slice P t cP) xs wr ∧ xs.map (·.d) = (firsts f i).map (duAt f n) ∧ okF f n i ∧ Below w.heap.size w wr) (fun _ vi _ => n - (intOf vi).toNat)
  case atStart => exact ⟨0, 0, _, _, [], rfl, rfl, rfl, by omega, ⟨HO0.out, (fun x hx => by cases hx), fun i j hi _ _ => absurd hi (by simp)⟩, rfl, okF_zero f n, HBZ.out⟩
  case round =>
    clear HO0 HBZ
    obtain ⟨i, t, P, cP, xs, rfl, hxt, rfl, hi, hD, hxm, hok, hbe⟩ := hrel
    have HXT := Lib.hid hxt
    have HD := Lib.hid hD
    have HXM := Lib.hid hxm
    have HOK := Lib.hid hok
    have HBE := Lib.hid hbe
    have i0 : (0 : Int) ≤ (i : Int) := Int.natCast_nonneg _
    clear hxt hD hxm hok hbe
    by_cases hin : i < n
    rotate_left
    · obtain rfl : i = n := by omega
      have HFIN := Lib.hid (HGOOD.out (okF_all HOK.out) _ _ _ HD.out HXM.out HBE.out)
      go_wp2_with fail
      go_ret2
      exact HFIN.out
    · have i1 : (i : Int) < (n : Int) := by omega
      have hil2 : i < ls.length := by rw [HN.out]; exact hin
      go_wp2_with fail
      obtain ⟨wa, hwa⟩ : ∃ wa : World, wa = wr := ⟨_, rfl⟩
      rw [← hwa] at HD HBE ⊢
      clear hwa
      go_loopw [11, 12] (fun vf vk wr => ∃ k : Nat, vf = .bool (fstB f i k) ∧ vk = .int .i64 (k : Int) ∧ k ≤ i ∧ Below wa.heap.size wa wr) (fun _ vk _ => i - (intOf vk).toNat)
      case atStart => exact ⟨0, rfl, rfl, by omega, Below.refl _ _⟩
      case round =>
        obtain ⟨k, rfl, rfl, hki, hbk⟩ := hrel
        have HBK := Lib.hid hbk
        have k0 : (0 : Int) ≤ (k : Int) := Int.natCast_nonneg _
        clear hbk
        by_cases hlt : k < i
        · have k1 : (k : Int) < (i : Int) := by omega
          have HSU := Lib.hid (fstB_succ f i k)
          cases hF : fstB f i k with
          | false =>
            rw [hF, Bool.false_and] at HSU
            clear hF
            go_wp2_with fail
            go_roundw
            case rel => exact ⟨k + 1, by rw [HSU.out], by go_num, by omega, HBK.out⟩
            case measure => simp only [intOf]; omega
          | true =>
            rw [hF, Bool.true_and] at HSU
            have HCA := Lib.hid (fun r hrr => HTG.out _ (HBE.out.trans (HBK.out.mono HBE.out.size)) i k hin (by omega) r hrr)
            rw [← (HFK.out i).1, ← (HFK.out k).1] at HCA
            cases hr : decide ((f i).key = (f k).key) with
            | false =>
              have HCB := Lib.hid (HCA.out false hr)
              have HS2 := Lib.hid (show fstB f i (k + 1) = true from HSU.out.trans (decide_eq_true (fun c => of_decide_eq_false hr c.symm)))
              clear hr hF
              go_wp2_with fail
              refine HCB.out.mono ?_
              rintro e w3 ⟨rfl, hb3⟩
              have HB3 := Lib.hid (HBK.out.trans (hb3.mono HBK.out.size))
              clear hb3
              go_wp2_with fail
              go_roundw
              case rel => exact ⟨k + 1, by rw [HS2.out], by go_num, by omega, HB3.out⟩
              case measure => simp only [intOf]; omega
            | true =>
              have HCB := Lib.hid (HCA.out true hr)
              have HS2 := Lib.hid (show fstB f i (k + 1) = false from HSU.out.trans (decide_eq_false (fun c => c (of_decide_eq_true hr).symm)))
              clear hr hF
              go_wp2_with fail
              refine HCB.out.mono ?_
              rintro e w3 ⟨rfl, hb3⟩
              have HB3 := Lib.hid (HBK.out.trans (hb3.mono HBK.out.size))
              clear hb3
              go_wp2_with fail
              go_roundw
              case rel => exact ⟨k + 1, by rw [HS2.out], by go_num, by omega, HB3.out⟩
              case measure => simp only [intOf]; omega
        · obtain rfl : k = i := by omega
          rw [fstB_all]
          cases hF : isFirst f k with
          | false =>
            obtain ⟨hs1, hs2⟩ := okF_skip HOK.out hF
            have HS1 := Lib.hid hs1
            have HS2 := Lib.hid (show xs.map (·.d) = (firsts f (k + 1)).map (duAt f n) by rw [hs2]; exact HXM.out)
            have HB2 := Lib.hid (HBE.out.trans (HBK.out.mono HBE.out.size))
            have HD2 := Lib.hid (HD.out.later HBK.out)
            clear hs1 hs2 hF
            go_wp2_with fail
            go_roundw
            case rel => exact ⟨k + 1, t, P, cP, xs, rfl, HXT.out, by go_num, by omega, HD2.out, HS2.out, HS1.out, HB2.out⟩
            case measure => simp only [intOf]; omega
          | true =>
            have HF := Lib.hid hF
            have hbw := HBE.out.trans (HBK.out.mono HBE.out.size)
            have HBW := Lib.hid hbw
            obtain ⟨ad, had, x0, x1, x2, x3, x4⟩ := l_cells (HR.out.below hbw) hil2
            subst had
            have hin2 := HIN.out k hin
            obtain ⟨I, cI, A2, c2, hb⟩ := HH.out.later hbw
            have b0 := hb.c0
            obtain ⟨q, hq, hq2⟩ := inI_nat hin2
            obtain ⟨bd, rfl, j0, j1, j2, j3⟩ := i_cells hb.items.row hq2
            obtain ⟨_, _, _, hfm, hff, hfl, _⟩ := HFK.out k
            rw [itN, if_pos hin2, hq, Int.toNat_natCast] at hfm
            obtain ⟨x, hx⟩ : ∃ x, lnAt ls k = x := ⟨_, rfl⟩
            rw [hx] at x0 x1 x2 x3 x4 hff hfl hq
            obtain ⟨t1, t2, t3, t4, t5⟩ := x
            dsimp only at x0 x1 x2 x3 x4 hff hfl hq
            subst hq
            rw [← hfm] at j2
            rw [← hff] at x3
            rw [← hfl] at x4
            have HST := Lib.hid (GrpW.start wr wr.drew (f k).method (f k).first (f k).last (7 + k) (Below.drew (Below.refl _ _)) rfl)
            have HDS := Lib.hid (duAt_start hF)
            obtain ⟨me, hme⟩ : ∃ me, (f k).method = me := ⟨_, rfl⟩
            have HME := Lib.hid hme
            have k1 : (k : Int) < (n : Int) := by omega
            have q0 : (0 : Int) ≤ (q : Int) := Int.natCast_nonneg _
            have q1 : (q : Int) < (its.length : Int) := by omega
            rw [hme] at HST j2
            obtain ⟨fk1, hfk1⟩ : ∃ z, (f k).first = z := ⟨_, rfl⟩
            obtain ⟨fk2, hfk2⟩ : ∃ z, (f k).last = z := ⟨_, rfl⟩
            rw [hfk1] at HST x3
            rw [hfk2] at HST x4
            have HK1 := Lib.hid hfk1
            have HK2 := Lib.hid hfk2
            clear hbw hin2 hb hfm hff hfl hx hF hq2 hme hfk1 hfk2
            obtain ⟨w1, hw1⟩ : ∃ w1 : World, w1 = wr := ⟨_, rfl⟩
            rw [← hw1] at HST HBK HBW x0 x3 x4 b0 j2 ⊢
            clear hw1
            go_wp2_with fail
            have z0 := World.new_ne w1 _ b0
            have z1 := World.new_ne w1 _ x0
            have z2 := World.new_ne w1 _ x3
            have z3 := World.new_ne w1 _ x4
            have z4 := World.new_ne w1 _ j2
            go_region_held3 (fun W => W.cell? ⟨b, 0, none⟩ = some (.slice (some bd) its.length cI) ∧ W.cell? (ad.add (k * 5)) = some (.int .i64 (q : Int)) ∧ W.cell? ⟨(ad.add (k * 5)).block, (ad.add (k * 5)).off + 3, none⟩ = some (.int .i64 fk1) ∧ W.cell? ⟨(ad.add (k * 5)).block, (ad.add (k * 5)).off + 4, none⟩ = some (.int .i64 fk2) ∧ W.cell? ⟨(bd.add (q * 4)).block, (bd.add (q * 4)).off + 2, none⟩ = some (.int .i64 me))
              (first | exact ⟨b0, x0, x3, x4, j2⟩ | (go_keep; done))
              (fail)
            go_wp2_with fail
            clear x0 x1 x2 x3 x4 b0 j0 j1 j2 j3 q0 q1 z0 z1 z2 z3 z4
            go_loopw [16] (fun vk wx => ∃ (j : Nat) (vl : Value) (X Y : XV), vk = .int .i64 (j : Int) ∧ k ≤ j ∧ j ≤ n ∧ GrpW w1 (duAt f j k).ls me (duAt f j k).first (duAt f j k).last (duAt f j k).alone (duAt f j k).units (7 + j) (7 + j) vl X Y wx ∧ okG f k j) (fun vk _ => n - (intOf vk).toNat)
            case atStart =>
              refine ⟨k, .slice none 0 0, ⟨0, none, 0, 0⟩, ⟨0, none, 0, 0⟩, rfl, by omega, by omega, ?_, ?_⟩
              · rw [HDS.out]
                show GrpW w1 [] me (f k).first (f k).last 0 0 _ _ _ _ _ _
                rw [HK1.out, HK2.out]
                exact HST.out
              · intro k' hk' he
                exact absurd he (isFirst_iff.1 HF.out k' hk')
            case round =>
              clear HST
              obtain ⟨j, vl, X, Y, rfl, hkj, hjn, hG, hokg⟩ := hrel
              have HG := Lib.hid hG
              have HOKG := Lib.hid hokg
              have j0 : (0 : Int) ≤ (j : Int) := Int.natCast_nonneg _
              have HBJ := Lib.hid (HBW.out.trans (hG.be.mono HBW.out.size))
              clear hG hokg
              by_cases hlt2 : j < n
              · have j1 : (j : Int) < (n : Int) := by omega
                have HCA := Lib.hid (fun r hrr => HTG.out _ HBJ.out k j hin hlt2 r hrr)
                rw [← (HFK.out k).1, ← (HFK.out j).1] at HCA
                have HDU := Lib.hid (duAt_succ f j k)
                cases hr : decide ((f k).key = (f j).key) with
                | false =>
                  have HCB := Lib.hid (HCA.out false hr)
                  have hne : ¬ (f j).key = (f k).key := fun c => by simp [c] at hr
                  have HD2 := Lib.hid (show duAt f (j + 1) k = duAt f j k by rw [HDU.out, if_neg hne])
                  have HOK2 := Lib.hid (show okG f k (j + 1) from fun k' hk' he => by
                    by_cases c : k' = j
                    · subst c; exact absurd he hne
                    · exact HOKG.out k' (by omega) he)
                  clear hr hne
                  go_wp2_with fail
                  refine HCB.out.mono ?_
                  rintro e w3 ⟨rfl, hb3⟩
                  have HG3 := Lib.hid ((HG.out.later hb3).more (show 7 + j ≤ 7 + (j + 1) by omega) (show 7 + j ≤ 7 + (j + 1) by omega))
                  clear hb3
                  go_wp2_with fail
                  go_roundw
                  case rel => exact ⟨j + 1, vl, X, Y, by go_num, by omega, by omega, by rw [HD2.out]; exact HG3.out, HOK2.out⟩
                  case measure => simp only [intOf]; omega
                | true =>
                  have HCB := Lib.hid (HCA.out true hr)
                  have heq : (f j).key = (f k).key := by have := of_decide_eq_true hr; exact this.symm
                  have HD2 := Lib.hid (show duAt f (j + 1) k = joinD (duAt f j k) j (f j) by rw [HDU.out, if_pos heq])
                  have HEQ := Lib.hid heq
                  clear hr heq HCA HDU
                  obtain ⟨ad2, had2, x0, x1, x2, x3, x4⟩ := l_cells (HR.out.below HBJ.out) (show j < ls.length by rw [HN.out]; exact hlt2)
                  cases had2
                  have HALJ := Lib.hid (fun W hb => HAL.out W hb j hlt2 (f j).alone (f j).e ⟨(HFK.out j).2.1.symm, (HFK.out j).2.2.2.2.2.2.symm⟩)
                  obtain ⟨_, _, hfu, _, hff, hfl, _⟩ := HFK.out j
                  obtain ⟨x, hx⟩ : ∃ x, lnAt ls j = x := ⟨_, rfl⟩
                  rw [hx] at x0 x1 x2 x3 x4 hfu hff hfl HALJ
                  have HLC := Lib.hid (fun (W : World) (hb : Below w1.heap.size w1 W) => (show W.cell? ⟨(ad.add (j * 5)).block, (ad.add (j * 5)).off + 1, none⟩ = some (.int .i64 x.units) ∧ W.cell? ⟨(ad.add (j * 5)).block, (ad.add (j * 5)).off + 3, none⟩ = some (.int .i64 x.first) ∧ W.cell? ⟨(ad.add (j * 5)).block, (ad.add (j * 5)).off + 4, none⟩ = some (.int .i64 x.last) from by
                    obtain ⟨ad3, had3, z0, z1, z2, z3, z4⟩ := l_cells (HR.out.below (HBW.out.trans (hb.mono HBW.out.size))) (show j < ls.length by rw [HN.out]; exact hlt2)
                    cases had3
                    rw [hx] at z1 z3 z4
                    exact ⟨z1, z3, z4⟩))
                  have HUI := Lib.hid (HU.out j hlt2)
                  have HAI := Lib.hid (HA.out j hlt2)
                  have HEJ := Lib.hid (HE.out j hlt2)
                  rw [hx] at HUI
                  obtain ⟨t1, t2, t3, t4, t5⟩ := x
                  dsimp only [Ln.val] at x0 x1 x2 x3 x4 hfu hff hfl HUI HALJ HLC
                  have HFJ := Lib.hid (show f j = ⟨(f j).key, (f j).alone, t2, (f j).method, t4, t5, (f j).e⟩ by rw [← hfu, ← hff, ← hfl])
                  obtain ⟨al, hal⟩ : ∃ al, (f j).alone = al := ⟨_, rfl⟩
                  rw [hal] at HALJ HFJ HAI
                  obtain ⟨ej, hej⟩ : ∃ ej, (f j).e = ej := ⟨_, rfl⟩
                  rw [hej] at HALJ HFJ HEJ
                  have HEJ2 := Lib.hid hej
                  clear hfu hff hfl hx hal hej
                  rcases HEJ.out with he0 | he3
                  rotate_left
                  · subst he3
                    have HNO := Lib.hid (HBAD.out (no_e hlt2 (by rw [HEJ2.out]; decide)))
                    go_wp2_with fail
                    refine HCB.out.mono ?_
                    rintro e w3 ⟨rfl, hb3⟩
                    have HB3 := Lib.hid (HBJ.out.trans (hb3.mono HBJ.out.size))
                    have y0 := cell_below' hb3 x0
                    have y1 := cell_below' hb3 x1
                    have y2 := cell_below' hb3 x2
                    have y3 := cell_below' hb3 x3
                    have y4 := cell_below' hb3 x4
                    clear hb3 x0 x1 x2 x3 x4
                    go_wp2_with fail
                    refine (HALJ.out _ HB3.out).mono ?_
                    rintro e w4 ⟨rfl, hb4⟩
                    have HN4 := Lib.hid (HNO.out _ (HB3.out.trans (hb4.mono HB3.out.size)))
                    clear hb4
                    go_wp2_with fail
                    go_ret2
                    exact HN4.out
                  · subst he0
                    have HOK2 := Lib.hid (show okG f k (j + 1) from fun k' hk' he => by
                      by_cases c : k' = j
                      · subst c; exact HEJ2.out
                      · exact HOKG.out k' (by omega) he)
                    rw [HFJ.out] at HD2
                    have hlen := grp_len f j k
                    rw [← duAt_ls] at hlen
                    have HLEN := Lib.hid hlen
                    clear hlen
                    generalize duAt f j k = D at *
                    obtain ⟨dl, da, du, dm, df, dd⟩ := D
                    dsimp only [joinD] at HG HD2 HLEN
                    obtain ⟨PL, cL, hvl, _⟩ := own_slice HG.out.ln
                    subst hvl
                    obtain ⟨nl, hnl⟩ : ∃ nl, dl.length = nl := ⟨_, rfl⟩
                    rw [hnl] at HG HLEN
                    obtain ⟨sy, Ye, ny, cy⟩ := Y
                    have HNL := Lib.hid hnl
                    clear hnl
                    go_wp2_with fail
                    refine HCB.out.mono ?_
                    rintro e w3 ⟨rfl, hb3⟩
                    have HB3 := Lib.hid (HBJ.out.trans (hb3.mono HBJ.out.size))
                    have HG3 := Lib.hid (HG.out.later hb3)
                    have y0 := cell_below' hb3 x0
                    have y1 := cell_below' hb3 x1
                    have y2 := cell_below' hb3 x2
                    have y3 := cell_below' hb3 x3
                    have y4 := cell_below' hb3 x4
                    clear hb3 x0 x1 x2 x3 x4 HG
                    go_wp2_with fail
                    refine (HALJ.out _ HB3.out).mono ?_
                    rintro e w4 ⟨rfl, hb4⟩
                    have hg4 := HG3.out.later hb4
                    have HG4 := Lib.hid hg4
                    have x1 := cell_below' hb4 y1
                    have x3 := cell_below' hb4 y3
                    have x4 := cell_below' hb4 y4
                    obtain ⟨sx, Xe, nx, cx⟩ := X
                    have a1 : w4.cell? ⟨w1.heap.size + 1, 0, none⟩ = some (.int .i64 sx) := hg4.ab.cell 0
                    have a2 : w4.cell? ⟨w1.heap.size + 1, 1, none⟩ = some (.slice Xe nx cx) := hg4.ab.cell 1
                    have hk7 : 7 + j ≤ 100000 := by omega
                    have HX1 := Lib.hid x1
                    have HX3 := Lib.hid x3
                    have HX4 := Lib.hid x4
                    clear hb4 y0 y1 y2 y3 y4 hg4 x1 x3 x4 HG3
                    go_wp2_with fail
                    go_cut [] (fun wx => ∃ X : XV, GrpW w1 dl me df dd (da + al) du (7 + j + 1) (7 + j) (.slice PL nl cL) X ⟨sy, Ye, ny, cy⟩ wx)
                    case first =>
                      have HLT := Lib.hid ((Later.refl w4).drew)
                      go_region_with
                        (first
                          | (go_at_call 21; refine (Exact.of_any (Fq w1.heap.size (.slice PL nl cL)) al _ ?_ HAI.out).mono ?_; exact (HG4.out.later HLT.out).new; rintro e w5 ⟨v5, rfl, hx5, hb5⟩; have HLT := Lib.hid (HLT.out.trans hb5); have HX5 := Lib.hid hx5; clear hx5 hb5; have b1 := HLT.out.cell a1; have b2 := HLT.out.cell a2)
                          | (go_at_call 20; refine (plus_any (Fq w1.heap.size (.slice PL nl cL)) _ _ da al (7 + j) _ ?_ ?_ ?_ hk7).mono ?_; exact (HG4.out.later HLT.out).new; exact (HG4.out.later HLT.out).ae; exact HX5.out.more (by omega); rintro e w6 ⟨v6, rfl, hx6, hb6⟩; obtain ⟨⟨s6, E6, l6, c6⟩, rfl⟩ := hx6.xv; have HLT := Lib.hid (HLT.out.trans hb6); have HX6 := Lib.hid hx6; clear hx6 hb6; have HG6 := Lib.hid (HG4.out.later HLT.out); have b1 : w6.cell? ⟨w1.heap.size + 1, 0, none⟩ = some (.int .i64 sx) := HG6.out.ab.cell 0; have b2 : w6.cell? ⟨w1.heap.size + 1, 1, none⟩ = some (.slice Xe nx cx) := HG6.out.ab.cell 1; have d3 := HG6.out.ab.frozen 0; have d4 := HG6.out.ab.frozen 1; try dsimp only [XV.val]))
                      all_goals
                        have HG7 := Lib.hid (HG6.out.setA ⟨s6, E6, l6, c6⟩ HX6.out)
                        go_wp2_with fail
                        go_meet
                        case rel => exact ⟨_, HG7.out⟩
                    case rest =>
                      obtain ⟨X, hg7⟩ := hcut
                      obtain ⟨w7, rfl⟩ : ∃ w7 : World, w7 = wc := ⟨_, rfl⟩
                      obtain ⟨x1, _, _⟩ := HLC.out w7 hg7.be
                      have a1 : w7.cell? ⟨w1.heap.size + 1 + 1, 0, none⟩ = some (.int .i64 sy) := hg7.ub.cell 0
                      have a2 : w7.cell? ⟨w1.heap.size + 1 + 1, 1, none⟩ = some (.slice Ye ny cy) := hg7.ub.cell 1
                      have HG7 := Lib.hid hg7
                      clear HG4 hg7 
                      go_wp2_with fail
                      go_cut [] (fun wx => ∃ Y : XV, GrpW w1 dl me df dd (da + al) (du + t2) (7 + j + 1) (7 + j + 1) (.slice PL nl cL) X Y wx)
                      case first =>
                        have HLT := Lib.hid ((Later.refl w7).drew)
                        go_region_with
                          (first
                            | (go_at_call 21; refine (Exact.of_any (Fq w1.heap.size (.slice PL nl cL)) t2 _ ?_ HUI.out).mono ?_; exact (HG7.out.later HLT.out).new; rintro e w5 ⟨v5, rfl, hx5, hb5⟩; have HLT := Lib.hid (HLT.out.trans hb5); have HX5 := Lib.hid hx5; clear hx5 hb5; have b1 := HLT.out.cell a1; have b2 := HLT.out.cell a2)
                            | (go_at_call 20; refine (plus_any (Fq w1.heap.size (.slice PL nl cL)) _ _ du t2 (7 + j) _ ?_ ?_ ?_ hk7).mono ?_; exact (HG7.out.later HLT.out).new; exact (HG7.out.later HLT.out).ue; exact HX5.out.more (by omega); rintro e w6 ⟨v6, rfl, hx6, hb6⟩; obtain ⟨⟨s8, E8, l8, c8⟩, rfl⟩ := hx6.xv; have HLT := Lib.hid (HLT.out.trans hb6); have HX6 := Lib.hid hx6; clear hx6 hb6; have HG6 := Lib.hid (HG7.out.later HLT.out); have b1 : w6.cell? ⟨w1.heap.size + 1 + 1, 0, none⟩ = some (.int .i64 sy) := HG6.out.ub.cell 0; have b2 : w6.cell? ⟨w1.heap.size + 1 + 1, 1, none⟩ = some (.slice Ye ny cy) := HG6.out.ub.cell 1; have d3 := HG6.out.ub.frozen 0; have d4 := HG6.out.ub.frozen 1; try dsimp only [XV.val]))
                        all_goals
                          have HG8 := Lib.hid (HG6.out.setU ⟨s8, E8, l8, c8⟩ HX6.out)
                          go_wp2_with fail
                          go_meet
                          case rel => exact ⟨_, HG8.out⟩
                      case rest =>
                        obtain ⟨Y, hg8⟩ := hcut
                        obtain ⟨w8, rfl⟩ : ∃ w8 : World, w8 = wc := ⟨_, rfl⟩
                        have hy0 : w8.cell? ⟨w1.heap.size, 0, none⟩ = some (.slice PL nl cL) := hg8.bx.cell 0
                        have hsz8 : w1.heap.size ≤ w8.heap.size := hg8.be.size
                        have HG8 := Lib.hid hg8
                        have HO8 := Lib.hid (show w8.ownsRow w1.heap.size 3 1 (.slice PL nl cL) nl (ints (nats dl)) from by have := hg8.ln; rw [HNL.out] at this; exact this)
                        have HNW := Lib.hid (Blk.new w8 3 #[.int .i64 (j : Int)])
                        have hHL := HLEN.out
                        have hb1 : (nl + 1) * 8 ≤ 140737488355328 := by omega
                        have hb2 : nl + 1 ≤ maxLen := by unfold maxLen; omega
                        have hba : w1.heap.size ≤ (w8.alloc (.cells #[.int .i64 (j : Int)] 3)).heap.size := by simp; omega
                        clear HG7 hg8 a1 a2 x1
                        go_wp2_with (at_builtin; refine wpList_app Exact.E_int rfl (.tmp 118) (.tmp 120) rfl rfl (HO8.out.alloc _) ⟨w8.heap.size, 0, none⟩ 1 1 [.int .i64 (j : Int)] rfl rfl (World.news_of_block HNW.out) (by simp [Value.oneCell']) hb1 hb2 hba (by decide) ?_; intro g9 cap9 w9 ho9 hg9 hat9; obtain ⟨hp9, hf9, hc9⟩ := HG8.out.pushN HNL.out hg9 ho9 hat9; have HP9 := Lib.hid hp9; clear ho9 hg9 hat9 hp9)
                        obtain ⟨w10, hw10⟩ : ∃ w10, w9.setCell ⟨w1.heap.size, 0, none⟩ (.slice (some ⟨g9, 0, none⟩) (nl + 1) cap9) = w10 := ⟨_, rfl⟩
                        have hp9 := HP9.out
                        rw [hw10] at hp9 ⊢
                        obtain ⟨_, x3, _⟩ := HLC.out w10 hp9.be
                        have a4 : w10.cell? ⟨w1.heap.size, 4, none⟩ = some (.int .i64 df) := hp9.bx.cell 4
                        have a5 := hp9.bx.frozen 4
                        have HP10 := Lib.hid hp9
                        clear HP9 hp9 hw10 HG8 HO8 HNW hy0 hsz8 hba hb1 hb2 hHL
                        go_cut [] (fun wx => GrpW w1 (dl ++ [j]) me (min df t4) dd (da + al) (du + t2) (7 + j + 1) (7 + j + 1) (.slice (some ⟨g9, 0, none⟩) (nl + 1) cap9) X Y wx)
                        case first =>
                          rcases Int.lt_or_le t4 df with q1 | q1
                          · have HP11 := Lib.hid ((HP10.out.later (Later.refl w10).drew).setQ 4 (.int .i64 t4) (min df t4) dd (by rw [Int.min_eq_right (Int.le_of_lt q1)]; rfl))
                            go_still_tail 8, (by kernel_rfl)
                            change wpList _ _ _ _ _ w10.drew
                            go_wp2_with fail
                            go_meet
                            case rel => exact HP11.out
                          · have HP11 := Lib.hid ((HP10.out.later (Later.refl w10).drew).setQ 4 (.int .i64 df) (min df t4) dd (by rw [Int.min_eq_left q1]; rfl))
                            go_still_tail 8, (by kernel_rfl)
                            change wpList _ _ _ _ _ w10.drew
                            go_wp2_with fail
                            go_meet
                            case rel => exact HP11.out
                        case rest =>
                          obtain ⟨w11, rfl⟩ : ∃ w11 : World, w11 = wc := ⟨_, rfl⟩
                          have hp9 := hcut
                          obtain ⟨_, _, x4⟩ := HLC.out w11 hp9.be
                          have b4 : w11.cell? ⟨w1.heap.size, 5, none⟩ = some (.int .i64 dd) := hp9.bx.cell 5
                          have b5 := hp9.bx.frozen 5
                          have HP11 := Lib.hid hp9
                          clear HP10 hp9 hcut a4 a5 x3
                          go_wp2_with fail
                          rcases Int.lt_or_le dd t5 with q1 | q1
                          · have HP12 := Lib.hid ((HP11.out.setQ 5 (.int .i64 t5) (min df t4) (max dd t5) (by rw [Int.max_eq_right (Int.le_of_lt q1)]; rfl)).later (Later.refl _).drew)
                            go_still_tail 8, (by kernel_rfl)
                            change wpList _ _ _ _ _ w11.drew
                            go_wp2_with fail
                            go_roundw
                            case rel => exact ⟨j + 1, .slice (some ⟨g9, 0, none⟩) (nl + 1) cap9, X, Y, by go_num, by omega, by omega, by rw [HD2.out]; exact HP12.out, HOK2.out⟩
                            case measure => simp only [intOf]; omega
                          · have HP12 := Lib.hid ((HP11.out.setQ 5 (.int .i64 dd) (min df t4) (max dd t5) (by rw [Int.max_eq_left q1]; rfl)).later (Later.refl _).drew)
                            go_still_tail 8, (by kernel_rfl)
                            change wpList _ _ _ _ _ w11.drew
                            go_wp2_with fail
                            go_roundw
                            case rel => exact ⟨j + 1, .slice (some ⟨g9, 0, none⟩) (nl + 1) cap9, X, Y, by go_num, by omega, by omega, by rw [HD2.out]; exact HP12.out, HOK2.out⟩
                            case measure => simp only [intOf]; omega
              · obtain rfl : j = n := by omega
                obtain ⟨PL, cL, hvl, _⟩ := own_slice HG.out.ln
                subst hvl
                have HMET := Lib.hid (show (duAt f j k).method = me from (duAt_method f j k).trans HME.out)
                have HFD := Lib.hid (fun (h : ¬ okD (duAt f j k)) => HBAD.out (no_d hin HF.out h))
                have HFG := Lib.hid (fun (h : okD (duAt f j k)) => okF_more HOK.out HF.out HOKG.out h)
                obtain ⟨D, hD⟩ : ∃ D, duAt f j k = D := ⟨_, rfl⟩
                have HDD := Lib.hid hD
                rw [hD] at HG HMET HFD HFG
                clear hD
                obtain ⟨dl, da, du, dm, df, dd⟩ := D
                dsimp only at HG HMET
                obtain ⟨nl, hnl⟩ : ∃ nl, dl.length = nl := ⟨_, rfl⟩
                rw [hnl] at HG
                have HNL := Lib.hid hnl
                obtain ⟨sx, Xe, nx, cx⟩ := X
                obtain ⟨sy, Ye, ny, cy⟩ := Y
                have a1 : wr.cell? ⟨w1.heap.size + 1, 0, none⟩ = some (.int .i64 sx) := HG.out.ab.cell 0
                have a2 : wr.cell? ⟨w1.heap.size + 1, 1, none⟩ = some (.slice Xe nx cx) := HG.out.ab.cell 1
                have hk9 : 7 + j ≤ 90000 := by omega
                have hf0 : okD ⟨dl, da, du, dm, df, dd⟩ ↔ (fitE da = 0 ∧ fitE du = 0) := by
                  unfold okD fitE
                  by_cases c1 : I64 da <;> by_cases c2 : I64 du <;> simp [c1, c2]
                have hfx : fitE da = 0 → fitN da = da := fun h => by
                  unfold fitE at h; unfold fitN
                  by_cases c1 : I64 da
                  · rw [if_pos c1]
                  · rw [if_neg c1] at h; omega
                have hfy : fitE du = 0 → fitN du = du := fun h => by
                  unfold fitE at h; unfold fitN
                  by_cases c1 : I64 du
                  · rw [if_pos c1]
                  · rw [if_neg c1] at h; omega
                have HFX := Lib.hid hfx
                have HFY := Lib.hid hfy
                have HF0 := Lib.hid hf0
                obtain ⟨x1, hx1⟩ : ∃ x, fitN da = x := ⟨_, rfl⟩
                obtain ⟨x2, hx2⟩ : ∃ x, fitE da = x := ⟨_, rfl⟩
                obtain ⟨y1, hy1⟩ : ∃ x, fitN du = x := ⟨_, rfl⟩
                obtain ⟨y2, hy2⟩ : ∃ x, fitE du = x := ⟨_, rfl⟩
                rw [hx1, hx2] at HFX
                rw [hy1, hy2] at HFY
                rw [hx2, hy2] at HF0
                have HX12 := Lib.hid (show fitN da = x1 ∧ fitE da = x2 from ⟨hx1, hx2⟩)
                have HY12 := Lib.hid (show fitN du = y1 ∧ fitE du = y2 from ⟨hy1, hy2⟩)
                clear hnl hf0 hfx hfy hx1 hx2 hy1 hy2 HTG HAL HIN
                go_wp2_with fail
                refine (fit_was _ da (7 + j) _ (HG.out.ae.any (Nat.le_refl _)) hk9 (by omega) x1 x2 HX12.out).mono ?_
                rintro e w5 ⟨rfl, hb5⟩
                have hg5 := HG.out.later hb5
                have HG5 := Lib.hid hg5
                have c1 : w5.cell? ⟨w1.heap.size + 1 + 1, 0, none⟩ = some (.int .i64 sy) := hg5.ub.cell 0
                have c2 : w5.cell? ⟨w1.heap.size + 1 + 1, 1, none⟩ = some (.slice Ye ny cy) := hg5.ub.cell 1
                clear hb5 hg5 HG a1 a2
                go_wp2_with fail
                refine (fit_was _ du (7 + j) _ (HG5.out.ue.any (Nat.le_refl _)) hk9 (by omega) y1 y2 HY12.out).mono ?_
                rintro e w6 ⟨rfl, hb6⟩
                have hg6 := HG5.out.later hb6
                have HG6 := Lib.hid hg6
                clear hb6 c1 c2 HG5
                by_cases hbad : x2 = 0 ∧ y2 = 0
                rotate_left
                · have HBD := Lib.hid (HFD.out (fun c => hbad (HF0.out.1 c)) _ (HBW.out.trans (hg6.be.mono HBW.out.size)))
                  clear hg6
                  by_cases e1 : x2 = 0
                  · have e2 : ¬ y2 = 0 := fun c => hbad ⟨e1, c⟩
                    have e3 : (y2 == 0) = false := by simpa using e2
                    subst e1
                    clear hbad
                    go_wp2_with fail
                    go_ret2
                    exact HBD.out
                  · have e3 : (x2 == 0) = false := by simpa using e1
                    clear hbad
                    go_wp2_with fail
                    go_ret2
                    exact HBD.out
                · obtain ⟨rfl, rfl⟩ := hbad
                  obtain ⟨hs1, hs2⟩ := HFG.out (HF0.out.2 ⟨rfl, rfl⟩)
                  obtain rfl := HFX.out rfl
                  obtain rfl := HFY.out rfl
                  have HS1 := Lib.hid hs1
                  have HS2 := Lib.hid hs2
                  have b0 : w6.cell? ⟨w1.heap.size, 0, none⟩ = some (.slice PL nl cL) := hg6.bx.cell 0
                  have b1 : w6.cell? ⟨w1.heap.size, 1, none⟩ = some (.int .i64 0) := hg6.bx.cell 1
                  have b2 : w6.cell? ⟨w1.heap.size, 2, none⟩ = some (.int .i64 0) := hg6.bx.cell 2
                  have b3 : w6.cell? ⟨w1.heap.size, 3, none⟩ = some (.int .i64 me) := hg6.bx.cell 3
                  have b4 : w6.cell? ⟨w1.heap.size, 4, none⟩ = some (.int .i64 df) := hg6.bx.cell 4
                  have b5 : w6.cell? ⟨w1.heap.size, 5, none⟩ = some (.int .i64 dd) := hg6.bx.cell 5
                  have f1 := hg6.bx.frozen 1
                  have f2 := hg6.bx.frozen 2
                  obtain ⟨hq9, hl9, hbe9⟩ := HG6.out.fin x1 y1
                  rw [HNL.out] at hl9
                  have HL9 := Lib.hid (show ((w6.setCell ⟨w1.heap.size, 1, none⟩ (.int .i64 x1)).setCell ⟨w1.heap.size, 2, none⟩ (.int .i64 y1)).ownsRow w1.heap.size 3 1 (.slice PL nl cL) dl.length (ints (nats dl)) from by rw [HNL.out]; exact hl9)
                  have HBE9 := Lib.hid hbe9
                  have hall := HBK.out.trans (hbe9.mono HBK.out.size)
                  have hDW := (HD.out.later hall).own
                  rw [HXT.out] at hDW
                  have HDO := Lib.hid (hDW.alloc (.cells #[.slice (some ⟨0, 0, none⟩) nl cL] 43))
                  have HDW := Lib.hid hDW
                  have HNW := Lib.hid (show Blk (((w6.setCell ⟨w1.heap.size, 1, none⟩ (.int .i64 x1)).setCell ⟨w1.heap.size, 2, none⟩ (.int .i64 y1)).alloc (.cells #[.slice PL nl cL, .int .i64 x1, .int .i64 y1, .int .i64 me, .int .i64 df, .int .i64 dd] 43)) w6.heap.size 43 #[.slice PL nl cL, .int .i64 x1, .int .i64 y1, .int .i64 me, .int .i64 df, .int .i64 dd] from by
                    have := Blk.new ((w6.setCell ⟨w1.heap.size, 1, none⟩ (.int .i64 x1)).setCell ⟨w1.heap.size, 2, none⟩ (.int .i64 y1)) 43 #[.slice PL nl cL, .int .i64 x1, .int .i64 y1, .int .i64 me, .int .i64 df, .int .i64 dd]
                    rw [show ((w6.setCell ⟨w1.heap.size, 1, none⟩ (.int .i64 x1)).setCell ⟨w1.heap.size, 2, none⟩ (.int .i64 y1)).heap.size = w6.heap.size by simp] at this
                    exact this)
                  have htn : t ≤ j := by
                    have h1 := congrArg List.length HXM.out
                    rw [List.length_map, List.length_map, HXT.out] at h1
                    have := firsts_len f k
                    omega
                  have hb1 : (t + 1) * 64 ≤ 140737488355328 := by omega
                  have hb2 : t + 1 ≤ maxLen := by unfold maxLen; omega
                  have hba : w.heap.size ≤ (((w6.setCell ⟨w1.heap.size, 1, none⟩ (.int .i64 x1)).setCell ⟨w1.heap.size, 2, none⟩ (.int .i64 y1)).alloc (.cells #[.slice PL nl cL, .int .i64 x1, .int .i64 y1, .int .i64 me, .int .i64 df, .int .i64 dd] 43)).heap.size := by
                    have h1 := HBE.out.size
                    have h2 := hall.size
                    simp at h2 ⊢
                    omega
                  have HY := Lib.hid (show dvc ⟨⟨dl, x1, y1, dm, df, dd⟩, .slice PL nl cL⟩ = [.slice PL nl cL, .int .i64 x1, .int .i64 y1, .int .i64 me, .int .i64 df, .int .i64 dd] by unfold dvc; rw [← HMET.out])
                  clear hg6 hs1 hs2 hq9 hl9 hbe9 hall hDW HDO
                  go_wp2_with (at_builtin; refine wpList_app E_duty rfl (.tmp 161) (.tmp 163) rfl rfl (HDW.out.alloc _) ⟨w6.heap.size, 0, none⟩ 1 1 [.slice PL nl cL, .int .i64 x1, .int .i64 y1, .int .i64 me, .int .i64 df, .int .i64 dd] rfl rfl (World.news_of_block HNW.out) (by simp [Value.oneCell']) hb1 hb2 hba (by decide) ?_; intro g9 cap9 w9 ho9 hg9 _; obtain ⟨hd9, hb9⟩ := DusW.out (y := ⟨dl, x1, y1, dm, df, dd⟩) (B := some ⟨g9, 0, none⟩) (c' := cap9) HD.out HBK.out HBE.out.size HL9.out HBE9.out hg9 (by rw [HXT.out, HY.out]; exact ho9); rw [HXT.out] at hd9; have HD9 := Lib.hid hd9; have HB9 := Lib.hid (HBE.out.trans hb9); clear ho9 hg9 hd9 hb9)
                  have HXS := Lib.hid (show (xs ++ [(⟨⟨dl, x1, y1, dm, df, dd⟩, .slice PL nl cL⟩ : DV)]).map (·.d) = (firsts f (k + 1)).map (duAt f j) by
                    rw [HS2.out, List.map_append, List.map_append, HXM.out]
                    simp only [List.map_cons, List.map_nil]
                    rw [HDD.out])
                  have HXL := Lib.hid (show (xs ++ [(⟨⟨dl, x1, y1, dm, df, dd⟩, .slice PL nl cL⟩ : DV)]).length = t + 1 by rw [List.length_append, HXT.out]; rfl)
                  go_roundw
                  case rel => exact ⟨k + 1, t + 1, some ⟨g9, 0, none⟩, cap9, xs ++ [⟨⟨dl, x1, y1, dm, df, dd⟩, .slice PL nl cL⟩], rfl, HXL.out, by go_num, by omega, HD9.out, HXS.out, HS1.out, HB9.out⟩
                  case measure => simp only [intOf]; omega
end
end Go.Proofs.Ytbdhbongaikphaa.BK
